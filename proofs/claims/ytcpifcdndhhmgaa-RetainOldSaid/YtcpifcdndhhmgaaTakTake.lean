/- What cells keep: the code's. -/
import Derived.Test.YtcpifcdndhhmgaaTakSmall
import Derived.Test.YtcpifcdndhhmgaaKnF
set_option linter.unusedVariables false
set_option linter.unusedSimpArgs false
namespace Go.Proofs.Ytcpifcdndhhmgaa
open Go.RowKit
attribute [local go_sem] ev_tmp ev_const ev_func ev_global lk_hit lk_miss uponK_value uponK_skip look_tmp look_const look_global look_func valP_value
def keptOf (p : CellV × Int) : KepS := ⟨p.1.path, p.1.kind, p.2⟩
def takeZ (z : List (CellV × Int)) : List KepS := (z.filter fun p => p.1.retain).map keptOf
def takeP (l : List CellV) (zs : List Int) : List KepS := takeZ (l.zip zs)
theorem takeZ_yes (z : List (CellV × Int)) (p : CellV × Int) (h : p.1.retain = true) : takeZ (z ++ [p]) = takeZ z ++ [keptOf p] := by unfold takeZ; simp [h]
theorem takeZ_no (z : List (CellV × Int)) (p : CellV × Int) (h : p.1.retain = false) : takeZ (z ++ [p]) = takeZ z := by unfold takeZ; simp [h]
theorem zip_next (l : List CellV) (zs : List Int) (k : Nat) (p : CellV) (z : Int) (h1 : l[k]? = some p) (h2 : zs[k]? = some z) : (l.zip zs).take (k + 1) = (l.zip zs).take k ++ [(p, z)] := by
  have h3 : (l.zip zs)[k]? = some (p, z) := by rw [List.getElem?_zip_eq_some]; exact ⟨h1, h2⟩
  obtain ⟨h4, h5⟩ := List.getElem?_eq_some_iff.1 h3
  rw [take_next h4, h5]
theorem zip_done (l : List CellV) (zs : List Int) (k : Nat) (h : zs.length ≤ k) : (l.zip zs).take (k + 1) = (l.zip zs).take k := by
  have h1 : (l.zip zs).length ≤ k := by rw [List.length_zip]; omega
  rw [List.take_of_length_le h1, List.take_of_length_le (by omega)]
/-- three cells -/
def Three (a b c : Addr) (u v x : Value) (W : World) : Prop := W.cell? a = some u ∧ W.cell? b = some v ∧ W.cell? c = some x
theorem Three.grown {a b c : Addr} {u v x : Value} {W W' : World} {g : Option Nat} (h : Three a b c u v x W) (hg : W.grownBy W' g) (ha : g ≠ some a.block) (hb : g ≠ some b.block) (hc : g ≠ some c.block) : Three a b c u v x W' :=
  ⟨hg.cell h.1 (fun e => ha e.symm), hg.cell h.2.1 (fun e => hb e.symm), hg.cell h.2.2 (fun e => hc e.symm)⟩
theorem Three.keep {a b c : Addr} {u v x : Value} {W W' : World} (h : Three a b c u v x W) (hk : Keeps W W') : Three a b c u v x W' := ⟨hk _ _ h.1, hk _ _ h.2.1, hk _ _ h.2.2⟩
theorem lay_own1 {w0 w w' : World} {g : Nat} {cs : Array Value} {t e : TypeId} {v : Value} {n size : Nat} {xs : List Value} (h : Lay w0 w [(g, cs, t)]) (hg : w.grownBy w' v.ownBlock) (hown : w.ownsRow w0.heap.size e size v n xs) (hne : v.ownBlock ≠ some g) : Lay w0 w' [(g, cs, t)] :=
  ⟨below_appendN h.below hg hown h.below.size, h.ge 0 rfl, by rw [hg.block g (h.lt 0 rfl) (fun e => hne e.symm)]; exact h.at_ 0 rfl, by simp, trivial⟩
theorem own_kes2 {w : World} {base : Nat} {v : Value} {n : Nat} {l : List KepS} (h : w.ownsRow base 29 3 v n (flatK l)) (hl : l.length = n) : ∃ A c, v = .slice A n c ∧ KeS w A n l ∧ n ≤ c ∧ c ≤ 9223372036854775807 ∧ (A = none → n = 0 ∧ c = 0) ∧ (∀ a, A = some a → base ≤ a.block) := by
  obtain ⟨A, c, e, h1, h2, h3, h4, h5⟩ := own_rw (E := kepE) (show w.ownsRow base 29 kepE.size v n (flatR kepE l) from h) hl
  exact ⟨A, c, e, h1.kes, h2, h3, h4, h5⟩
set_option maxRecDepth 100000 in
set_option maxHeartbeats 4000000 in
theorem take_any (A : Option Addr) (n c : Nat) (l : List CellV) (V : Option Addr) (m d : Nat) (zs : List Int) (w : World) (hA : Rw cellE w A n l) (hn : n ≤ 1048576) (hV : Vs w V m (zs.map (Value.int .i64))) (hm : m ≤ 1048576) :
    Calls Try.prog 31 #[.slice A n c, .slice V m d] w fun e w' => ∃ A n c, e = .returned (.slice A n c) ∧ KeS w' A n (takeP l zs) ∧ n ≤ c ∧ c ≤ 9223372036854775807 ∧ Below w.heap.size w w' ∧ (∀ a, A = some a → w.heap.size ≤ a.block) ∧ (A = none → n = 0 ∧ c = 0) := by
  refine calls_kw Try.func31 rfl Try.ntmps31 rfl [(0, .slice A n c), (1, .slice V m d)] rfl ?_
  have HL := Lib.hid hA.len
  have HZ : Hid (zs.length = m) := by show _ = _; have := hV.1; simpa using this
  repeat (first | refine kw_seq ?_ | refine kw_skip ?_ | refine kw_region ?_ | refine kl_nil ?_ | refine kq_then ?_ | refine kq_block ?_ | refine kw_exit ?_ | refine kq_then_exit ?_ | refine kq_block_here rfl ?_ | refine kq_block_far rfl ?_ | refine kq_again_exit ?_ | refine kw_ret ?_ | refine kq_then_ret ?_ | refine kq_block_ret ?_ | refine kq_again_ret ?_ | refine kw_ift rfl ?_ | refine kw_iff rfl ?_ | refine kl_ung rfl rfl ?_ | refine kl_skipg rfl rfl rfl rfl ?_ | refine kl_skipg0 rfl rfl rfl ?_ | (first | refine kl_move rfl rfl (.inl rfl) rfl rfl ?_ | refine kl_move rfl rfl (.inr rfl) rfl rfl ?_ | refine kl_const rfl rfl (.inl rfl) rfl ?_ | refine kl_const rfl rfl (.inr rfl) rfl ?_) | ((first | refine kl_step rfl rfl rfl fun K hK => ?_ | refine kl_step0 rfl rfl rfl fun K hK => ?_); go_simp; (try go_bits); (first | refine hK _ _ ?_ | refine hK _ ?_); clear hK K))
  refine KW.less [1, 5, 8, 9, 10] ?_
  simp only [nrm, lk, Nat.reduceBEq, cond_true, cond_false]
  refine kw_block ?_
  refine kw_loop (fun mm L W => ∃ (k j : Nat) (v : Value), k ≤ n ∧ mm = n - k ∧ Hid (Below w.heap.size w W) ∧ Hid (W.ownsRow w.heap.size 29 3 v j (flatK (takeZ ((l.zip zs).take k)))) ∧ Hid (j = (takeZ ((l.zip zs).take k)).length ∧ j ≤ k) ∧ L = [(1, .slice V m d), (5, v), (8, .slice A n c), (9, .int .i64 (n : Int)), (10, .int .i64 (k : Int))]) ⟨0, 0, .slice none 0 0, by omega, rfl, Below.refl _ _, World.ownsRow_nil _ _ _ _, ⟨rfl, Nat.le_refl _⟩, rfl⟩ ?_
  rintro mm L W ⟨k, j, v, hk, rfl, hb, ho, hj, rfl⟩
  by_cases hlt : k < n
  case neg =>
    obtain rfl : n = k := by omega
    have t1 : decide ((n : Int) < (n : Int)) = false := by simp
    have t1n : decide (n < n) = false := by simp
    rw [List.take_of_length_le (by rw [List.length_zip, HL.out]; omega)] at ho hj
    obtain ⟨A6, c6, rfl, hke, _, hn6, hc6, h06⟩ := own_kes ho.out hj.out.1.symm
    have hj2 := hj.out.2
    clear hlt
    repeat (first | refine kw_seq ?_ | refine kw_block ?_ | refine kw_skip ?_ | refine kw_region ?_ | refine kl_nil ?_ | refine kq_then ?_ | refine kq_block ?_ | refine kw_exit ?_ | refine kq_then_exit ?_ | refine kq_block_here rfl ?_ | refine kq_block_far rfl ?_ | refine kq_again_exit ?_ | refine kw_ret ?_ | refine kq_then_ret ?_ | refine kq_block_ret ?_ | refine kq_again_ret ?_ | refine kw_ift rfl ?_ | refine kw_iff rfl ?_ | refine kl_ung rfl rfl ?_ | refine kl_skipg rfl rfl rfl rfl ?_ | refine kl_skipg0 rfl rfl rfl ?_ | (first | refine kl_move rfl rfl (.inl rfl) rfl rfl ?_ | refine kl_move rfl rfl (.inr rfl) rfl rfl ?_ | refine kl_const rfl rfl (.inl rfl) rfl ?_ | refine kl_const rfl rfl (.inr rfl) rfl ?_) | ((first | refine kl_step rfl rfl rfl fun K hK => ?_ | refine kl_step0 rfl rfl rfl fun K hK => ?_); go_simp; (try go_bits); (first | refine hK _ _ ?_ | refine hK _ ?_); clear hK K))
    refine kl_call rfl rfl rfl Try.func53 rfl (by kernel_rfl) rfl ?_
    refine Calls.mono (cloneK_any A6 j c6 _ W hke (by omega) h06) ?_
    rintro e w7 ⟨v7, rfl, ho7, hb7⟩
    refine ⟨_, rfl, ?_⟩
    obtain ⟨A7, c7, rfl, hke7, hn7, hc7, h07, hw7'⟩ := own_kes2 ho7 hke.len
    have hw7 : ∀ a, A7 = some a → w.heap.size ≤ a.block := fun a e => by
      have h1 := hw7' a e
      have := hb.out.size
      omega
    have hb8 : Below w.heap.size w w7 := below_then hb.out hb7 hb.out.size
    clear ho7 hb7 hke h06 ho
    repeat (first | refine kw_seq ?_ | refine kw_block ?_ | refine kw_skip ?_ | refine kw_region ?_ | refine kl_nil ?_ | refine kq_then ?_ | refine kq_block ?_ | refine kw_exit ?_ | refine kq_then_exit ?_ | refine kq_block_here rfl ?_ | refine kq_block_far rfl ?_ | refine kq_again_exit ?_ | refine kw_ret ?_ | refine kq_then_ret ?_ | refine kq_block_ret ?_ | refine kq_again_ret ?_ | refine kw_ift rfl ?_ | refine kw_iff rfl ?_ | refine kl_ung rfl rfl ?_ | refine kl_skipg rfl rfl rfl rfl ?_ | refine kl_skipg0 rfl rfl rfl ?_ | (first | refine kl_move rfl rfl (.inl rfl) rfl rfl ?_ | refine kl_move rfl rfl (.inr rfl) rfl rfl ?_ | refine kl_const rfl rfl (.inl rfl) rfl ?_ | refine kl_const rfl rfl (.inr rfl) rfl ?_) | ((first | refine kl_step rfl rfl rfl fun K hK => ?_ | refine kl_step0 rfl rfl rfl fun K hK => ?_); go_simp; (try go_bits); (first | refine hK _ _ ?_ | refine hK _ ?_); clear hK K))
    exact kq_ret1 rfl rfl ⟨_, _, _, rfl, hke7, hn7, hc7, hb8, hw7, h07⟩
  have t1 : decide ((k : Int) < (n : Int)) = true := by rw [decide_eq_true_eq]; omega
  have t1n : decide (k < n) = true := decide_eq_true hlt
  have u0 : (0 : Int) ≤ k := by omega
  have u1 : (k : Int) < n := by omega
  obtain ⟨g, o, p, rfl, hr, _, hx⟩ := hA.next hlt
  have hr2 : Hid (W.rangeAt g (o + k * 6) (cellC p)) := fun q u hu => Keeps.of_below hb.out _ _ (hr q u hu)
  obtain ⟨nk, hnk⟩ : ∃ nk, k + 1 = nk := ⟨_, rfl⟩
  have k1 : (k : Int) + 1 = (nk : Int) := by omega
  have k2 : (0 : Int) ≤ nk := by omega
  have k3 : (nk : Int) ≤ 1048576 := by omega
  have HK := Lib.hid (And.intro hnk hlt)
  clear hr hlt hk hnk
  repeat (first | refine kw_seq ?_ | refine kw_block ?_ | refine kw_region ?_ | refine kl_nil ?_ | refine kq_then ?_ | refine kw_ift rfl ?_ | refine kw_skip ?_ | refine kl_load_mid 63 g _ _ _ hr2.out Try.underlying63 rfl (cellInfoL p) rfl rfl rfl rfl rfl ?_ | (first | refine kl_move rfl rfl (.inl rfl) rfl rfl ?_ | refine kl_move rfl rfl (.inr rfl) rfl rfl ?_ | refine kl_const rfl rfl (.inl rfl) rfl ?_ | refine kl_const rfl rfl (.inr rfl) rfl ?_) | ((first | refine kl_step rfl rfl rfl fun K hK => ?_ | refine kl_step0 rfl rfl rfl fun K hK => ?_); go_simp; (try go_bits); (first | refine hK _ _ ?_ | refine hK _ ?_); clear hK K))
  refine kl_zeroL (⟨hb.out, trivial⟩ : Lay w W []) cellZero rfl rfl rfl rfl ?_
  intro g7 w2 hg7 hb3 hL2
  have HNE : Hid (v.ownBlock ≠ some g7) := by
    show _ ≠ _
    intro e
    have := (ho.out.lt g7 e).2
    omega
  have HO2 := Lib.hid (own_below ho.out hb3)
  clear hg7 hb3
  repeat (first | (first | refine kl_move rfl rfl (.inl rfl) rfl rfl ?_ | refine kl_move rfl rfl (.inr rfl) rfl rfl ?_ | refine kl_const rfl rfl (.inl rfl) rfl ?_ | refine kl_const rfl rfl (.inr rfl) rfl ?_) | ((first | refine kl_step rfl rfl rfl fun K hK => ?_ | refine kl_step0 rfl rfl rfl fun K hK => ?_); go_simp; (try go_bits); (first | refine hK _ _ ?_ | refine hK _ ?_); clear hK K))
  refine kl_putL (cells := (cellC p).toArray) hL2 0 rfl (cellInfo p) rfl (cellC_agg p) rfl rfl rfl rfl rfl (fun hL3 => ?_)
  have HO3 := Lib.hid (HO2.out.kept (grown_row w2 g7 (cellC p).toArray) (.inr HNE.out))
  generalize w2.setRow g7 (cellC p).toArray = w3 at hL3 HO3 ⊢
  have hL3 : Lay w w3 [(g7, (cellC p).toArray, 63)] := hL3
  have HL3 := Lib.hid hL3
  clear HO2 hL2
  have c2 : w3.cell? ⟨g7, 2, none⟩ = some (.bool p.retain) := hL3.get (j := 2) 0 rfl rfl
  have HX := Lib.hid hx.out
  clear hL3 hb ho hr2 hx
  by_cases hkm : k < m
  case neg =>
    have q1 : decide ((k : Int) < (m : Int)) = false := by rw [decide_eq_false_iff_not]; omega
    have q1n : decide (k < m) = false := decide_eq_false hkm
    have hz := zip_done l zs k (by rw [HZ.out]; omega)
    rw [HK.out.1] at hz
    have HZD := Lib.hid hz
    clear hz hkm
    cases hret : p.retain <;> rw [hret] at c2
    all_goals
      repeat (first | refine kw_seq ?_ | refine kw_block ?_ | refine kw_region ?_ | refine kl_nil ?_ | refine kq_then ?_ | refine kq_block ?_ | refine kw_ift rfl ?_ | refine kw_iff rfl ?_ | refine kw_skip ?_ | refine kl_ung rfl rfl ?_ | refine kl_skipg rfl rfl rfl rfl ?_ | (first | refine kl_move rfl rfl (.inl rfl) rfl rfl ?_ | refine kl_move rfl rfl (.inr rfl) rfl rfl ?_ | refine kl_const rfl rfl (.inl rfl) rfl ?_ | refine kl_const rfl rfl (.inr rfl) rfl ?_) | ((first | refine kl_step rfl rfl rfl fun K hK => ?_ | refine kl_step0 rfl rfl rfl fun K hK => ?_); go_simp; (try go_bits); (first | refine hK _ _ ?_ | refine hK _ ?_); clear hK K))
      refine kq_again (n - nk) [1, 5, 8, 9, 10] (by have := HK.out; omega) ?_
      refine ⟨nk, j, v, by have := HK.out; omega, rfl, HL3.out.below, ?_, ?_, rfl⟩
      · show World.ownsRow _ _ _ _ _ _ _
        rw [HZD.out]; exact HO3.out
      · show _ ∧ _
        rw [HZD.out]; exact ⟨hj.out.1, by have := hj.out.2; have := HK.out; omega⟩
  have q1 : decide ((k : Int) < (m : Int)) = true := by rw [decide_eq_true_eq]; omega
  have q1n : decide (k < m) = true := decide_eq_true hkm
  have hkz : k < zs.length := by rw [HZ.out]; exact hkm
  obtain ⟨z, hz⟩ : ∃ z, zs[k]? = some z := ⟨_, List.getElem?_eq_getElem hkz⟩
  have hzn := zip_next l zs k p z HX.out hz
  rw [HK.out.1] at hzn
  have HZN := Lib.hid hzn
  have HZK := Lib.hid hz
  clear hzn hkz hz
  cases hret : p.retain
  case false =>
    rw [hret] at c2
    have HRT := Lib.hid hret
    clear hret hkm
    repeat (first | refine kw_seq ?_ | refine kw_block ?_ | refine kw_region ?_ | refine kl_nil ?_ | refine kq_then ?_ | refine kq_block ?_ | refine kw_ift rfl ?_ | refine kw_iff rfl ?_ | refine kw_skip ?_ | refine kl_ung rfl rfl ?_ | refine kl_skipg rfl rfl rfl rfl ?_ | (first | refine kl_move rfl rfl (.inl rfl) rfl rfl ?_ | refine kl_move rfl rfl (.inr rfl) rfl rfl ?_ | refine kl_const rfl rfl (.inl rfl) rfl ?_ | refine kl_const rfl rfl (.inr rfl) rfl ?_) | ((first | refine kl_step rfl rfl rfl fun K hK => ?_ | refine kl_step0 rfl rfl rfl fun K hK => ?_); go_simp; (try go_bits); (first | refine hK _ _ ?_ | refine hK _ ?_); clear hK K))
    refine kq_again (n - nk) [1, 5, 8, 9, 10] (by have := HK.out; omega) ?_
    refine ⟨nk, j, v, by have := HK.out; omega, rfl, HL3.out.below, ?_, ?_, rfl⟩
    · show World.ownsRow _ _ _ _ _ _ _
      rw [HZN.out, takeZ_no _ (p, z) HRT.out]; exact HO3.out
    · show _ ∧ _
      rw [HZN.out, takeZ_no _ (p, z) HRT.out]; exact ⟨hj.out.1, by have := hj.out.2; have := HK.out; omega⟩
  rw [hret] at c2
  have HRT := Lib.hid hret
  obtain ⟨gV, oV, rfl, hcV0⟩ := hV.at_ hkm
  obtain ⟨hzk1, hzk2⟩ := List.getElem?_eq_some_iff.1 HZK.out
  have hcV : w.cell? ⟨gV, oV + k, none⟩ = some (.int .i64 z) := by rw [hcV0]; simp [hzk2]
  have HCV := Lib.hid hcV
  clear hret hcV hcV0 hzk2 hzk1 hkm
  have u3 : (k : Int) < (m : Int) := by have := of_decide_eq_true q1; omega
  repeat (first | refine kw_seq ?_ | refine kw_region ?_ | refine kl_nil ?_ | refine kq_then ?_ | refine kw_ift rfl ?_ | refine kl_ung rfl rfl ?_ | refine kl_skipg rfl rfl rfl rfl ?_ | (first | refine kl_move rfl rfl (.inl rfl) rfl rfl ?_ | refine kl_move rfl rfl (.inr rfl) rfl rfl ?_ | refine kl_const rfl rfl (.inl rfl) rfl ?_ | refine kl_const rfl rfl (.inr rfl) rfl ?_) | ((first | refine kl_step rfl rfl rfl fun K hK => ?_ | refine kl_step0 rfl rfl rfl fun K hK => ?_); go_simp; (try go_bits); (first | refine hK _ _ ?_ | refine hK _ ?_); clear hK K))
  have hR := HL3.out.next ((Below.refl _ w3).drew)
  have HO4 := Lib.hid (own_below HO3.out ((Below.refl _ w3).drew))
  have r0 : ∀ W, Lay w W [(g7, (cellC p).toArray, 63)] → W.cell? ⟨g7, 0, none⟩ = some (.string ⟨p.path.toArray⟩) := fun W h => h.get (j := 0) 0 rfl rfl
  have r1 : ∀ W, Lay w W [(g7, (cellC p).toArray, 63)] → W.cell? ⟨g7, 1, none⟩ = some (.int .i64 p.kind) := fun W h => h.get (j := 1) 0 rfl rfl
  have r2 : ∀ W, Lay w W [(g7, (cellC p).toArray, 63)] → W.cell? ⟨gV, oV + k, none⟩ = some (.int .i64 z) := fun W h => Keeps.of_below h.below _ _ HCV.out
  clear c2 t1 t1n HO3
  refine kw_region_f (fun W => Lay w W [(g7, (cellC p).toArray, 63)]) [true, true, true, true, true, true, true, true, true, false, false, false, true] (by kernel_rfl) (by kernel_rfl) hR ?_
  clear HL3
  generalize w3.drew = w4 at *
  repeat (first | refine kf_nil ?_ | refine kf_ung rfl rfl ?_ | refine kf_skipg rfl rfl rfl rfl ?_ | (first | refine kf_move rfl rfl (.inl rfl) rfl rfl ?_ | refine kf_move rfl rfl (.inr rfl) rfl rfl ?_ | refine kf_const rfl rfl (.inl rfl) rfl ?_ | refine kf_const rfl rfl (.inr rfl) rfl ?_) | (refine kf_val rfl rfl rfl ?_; apply Exists.intro; refine And.intro (fun W hW N hN => ?_) ?_; · (go_simp; (try go_bits); exact hN)))
  refine kf_ch ?_
  refine kl_build 29 _ (kepC ⟨p.path, p.kind, z⟩).toArray rfl rfl rfl (by rfl) (by rfl) (kepBuilt3 p.path p.kind z) ?_
  refine kl_nil ?_
  refine kq_f hR ?_
  repeat (first | refine kf_nil ?_ | refine kf_ung rfl rfl ?_ | refine kf_skipg rfl rfl rfl rfl ?_ | (first | refine kf_move rfl rfl (.inl rfl) rfl rfl ?_ | refine kf_move rfl rfl (.inr rfl) rfl rfl ?_ | refine kf_const rfl rfl (.inl rfl) rfl ?_ | refine kf_const rfl rfl (.inr rfl) rfl ?_) | (refine kf_val rfl rfl rfl ?_; apply Exists.intro; refine And.intro (fun W hW N hN => ?_) ?_; · (go_simp; (try go_bits); exact hN)))
  refine kf_ch ?_
  refine kl_buildSlice_row (z := kepC kepZ) (cs := kepC ⟨p.path, p.kind, z⟩) Try.underlying26 kepZero kepSize rfl (by omega) (by omega) rfl rfl rfl rfl rfl ?_
  have hr5 := rangeAt_new w4 (kepC ⟨p.path, p.kind, z⟩).toArray 29 w4.heap.size rfl
  have hb5 : Below w4.heap.size w4 (w4.alloc (.cells (kepC ⟨p.path, p.kind, z⟩).toArray 29)) := (Below.refl _ _).alloc (Nat.le_refl _) _
  have HO5 := Lib.hid (own_below HO4.out hb5)
  have hR5 := hR.next hb5
  have HR5 : Hid ((w4.alloc (.cells (kepC ⟨p.path, p.kind, z⟩).toArray 29)).rangeAt w4.heap.size 0 (kepC ⟨p.path, p.kind, z⟩)) := hr5
  clear hr5 hb5 HO4 hR
  generalize w4.alloc (.cells (kepC ⟨p.path, p.kind, z⟩).toArray 29) = w5 at HO5 hR5 HR5 ⊢
  generalize w4.heap.size = g5 at HR5 ⊢
  refine kl_nil ?_
  refine kq_f hR5 ?_
  repeat (first | refine kf_nil ?_ | refine kf_ung rfl rfl ?_ | refine kf_skipg rfl rfl rfl rfl ?_ | (first | refine kf_move rfl rfl (.inl rfl) rfl rfl ?_ | refine kf_move rfl rfl (.inr rfl) rfl rfl ?_ | refine kf_const rfl rfl (.inl rfl) rfl ?_ | refine kf_const rfl rfl (.inr rfl) rfl ?_) | (refine kf_val rfl rfl rfl ?_; apply Exists.intro; refine And.intro (fun W hW N hN => ?_) ?_; · (go_simp; (try go_bits); exact hN)))
  refine kf_ch ?_
  refine kl_appK w.heap.size v j (takeZ ((l.zip zs).take k)) (keptOf (p, z)) HO5.out g5 1 HR5.out (by have := hj.out; have := HK.out; omega) hR5.below.size rfl rfl rfl rfl rfl rfl ?_
  intro v6 w6 ho6 hg6 _
  have hR6 := lay_own1 hR5 hg6 HO5.out HNE.out
  rw [← takeZ_yes _ (p, z) HRT.out, ← HZN.out] at ho6
  have HO6 := Lib.hid ho6
  clear ho6 hg6 HO5 HR5 hR5
  refine kl_nil ?_
  refine kq_f hR6 ?_
  repeat (first | refine kf_nil ?_ | refine kf_ung rfl rfl ?_ | refine kf_skipg rfl rfl rfl rfl ?_ | (first | refine kf_move rfl rfl (.inl rfl) rfl rfl ?_ | refine kf_move rfl rfl (.inr rfl) rfl rfl ?_ | refine kf_const rfl rfl (.inl rfl) rfl ?_ | refine kf_const rfl rfl (.inr rfl) rfl ?_) | (refine kf_val rfl rfl rfl ?_; apply Exists.intro; refine And.intro (fun W hW N hN => ?_) ?_; · (go_simp; (try go_bits); exact hN)))
  have HB6 := Lib.hid hR6
  clear r0 r1 r2 hR6 u3
  repeat (first | refine kw_seq ?_ | refine kw_block ?_ | refine kw_region ?_ | refine kl_nil ?_ | refine kq_then ?_ | refine kq_block ?_ | refine kw_ift rfl ?_ | refine kw_iff rfl ?_ | refine kw_skip ?_ | refine kl_ung rfl rfl ?_ | refine kl_skipg rfl rfl rfl rfl ?_ | (first | refine kl_move rfl rfl (.inl rfl) rfl rfl ?_ | refine kl_move rfl rfl (.inr rfl) rfl rfl ?_ | refine kl_const rfl rfl (.inl rfl) rfl ?_ | refine kl_const rfl rfl (.inr rfl) rfl ?_) | ((first | refine kl_step rfl rfl rfl fun K hK => ?_ | refine kl_step0 rfl rfl rfl fun K hK => ?_); go_simp; (try go_bits); (first | refine hK _ _ ?_ | refine hK _ ?_); clear hK K))
  refine kq_again (n - nk) [1, 5, 8, 9, 10] (by have := HK.out; omega) ?_
  refine ⟨nk, j + 1, v6, by have := HK.out; omega, rfl, HB6.out.below, HO6.out, ?_, rfl⟩
  show _ ∧ _
  rw [HZN.out, takeZ_yes _ (p, z) HRT.out, List.length_append, ← hj.out.1]
  exact ⟨rfl, by have := hj.out.2; have := HK.out; omega⟩
end Go.Proofs.Ytcpifcdndhhmgaa
