/- A variable's cells. -/
import Derived.Test.YtcpifcdndhhmgaaKnR
import Derived.Test.YtcpifcdndhhmgaaRetRd
import Derived.Test.YtcpifcdndhhmgaaTakSmall
import Derived.Test.YtcpifcdndhhmgaaKnF
import Derived.Test.YtcpifcdndhhmgaaKnT
set_option linter.unusedVariables false
set_option linter.unusedSimpArgs false
namespace Go.Proofs.Ytcpifcdndhhmgaa
open Go.RowKit
attribute [local go_sem] ev_tmp ev_const ev_func ev_global lk_hit lk_miss uponK_value uponK_skip look_tmp look_const look_global look_func valP_value
theorem flat_set {α : Type} (E : Enc α) (pre post : List α) (c c' : α) (k j : Nat) (u : Value) (hk : pre.length = k) (hj : j < E.size) (hc : (E.cells c).set j u = E.cells c') : (flatR E (pre ++ c :: post)).set (k * E.size + j) u = flatR E (pre ++ c' :: post) := by
  rw [flatR_append, flatR_append, flatR_cons, flatR_cons, List.set_append_right _ _ (by rw [flatR_len, hk]; omega), flatR_len, hk, show k * E.size + j - k * E.size = j by omega, List.set_append_left _ _ (by rw [E.len]; exact hj), hc]
theorem of_take_next (s : SymV) (k : Nat) (c : CellV) (hc : (baseP s)[k]? = some c) : (ofP s).take (k + 1) ++ (baseP s).drop (k + 1) = (ofP s).take k ++ fillP s k c :: (baseP s).drop (k + 1) := by
  have h1 : (ofP s)[k]? = some (fillP s k c) := by unfold ofP; rw [List.getElem?_mapIdx, hc]; rfl
  obtain ⟨h2, h3⟩ := List.getElem?_eq_some_iff.1 h1
  rw [take_next h2, h3, List.append_assoc]; rfl
theorem base_pos {s : SymV} (h : TypOk s.typ) : 0 < (baseP s).length := by
  have h1 := base_len h
  have h2 : 1 ≤ sizeP s.typ := by
    unfold sizeP
    split
    · omega
    split
    · next h7 => exact (h.n h7).1
    · next h6 h7 =>
      have hk := h.kind
      unfold fieldsP
      split
      · next h8 => have := h.some_ h8; omega
      split
      · decide
      split
      · decide
      · omega
  omega
theorem base_le {s : SymV} (h : TypOk s.typ) : (baseP s).length ≤ 8 := by
  have h1 := base_len h
  have h2 := size_le h
  omega
theorem arr_next (s : SymV) (k : Nat) : (List.range (k + 1)).map (arrC s) = (List.range k).map (arrC s) ++ [arrC s k] := by rw [List.range_succ, List.map_append]; rfl
theorem fld_next (s : SymV) (l : List FldV) (k : Nat) (f : FldV) (h : l[k]? = some f) : (l.mapIdx (fldCell s)).take (k + 1) = (l.mapIdx (fldCell s)).take k ++ [fldCell s k f] := by
  have h1 : (l.mapIdx (fldCell s))[k]? = some (fldCell s k f) := by rw [List.getElem?_mapIdx, h]; rfl
  obtain ⟨h2, h3⟩ := List.getElem?_eq_some_iff.1 h1
  rw [take_next h2, h3]
theorem own_low2 {w : World} {B B' : Nat} {e : TypeId} {size n : Nat} {v : Value} {xs : List Value} (h : w.ownsRow B e size v n xs) (hb : B' ≤ B) : w.ownsRow B' e size v n xs := by
  refine ⟨h.1, ?_⟩
  rcases h.2 with h2 | ⟨g, cap, cur, h1, h2, h3⟩
  · exact .inl h2
  · exact .inr ⟨g, cap, cur, h1, Nat.le_trans hb h2, h3⟩
theorem own_formC {w : World} {base size n : Nat} {e : TypeId} {v : Value} {xs : List Value} (h : w.ownsRow base e size v n xs) (h0 : 0 < n) : ∃ g c, v = .slice (some ⟨g, 0, none⟩) n c ∧ base ≤ g ∧ g < w.heap.size ∧ n ≤ c ∧ c ≤ 9223372036854775807 := by
  rcases h.2 with ⟨_, h2⟩ | ⟨g, cap, cur, h1, h2, h3, h4, h5, _⟩
  · omega
  · exact ⟨g, cap, h1, h2, (Array.getElem?_eq_some_iff.1 h3).1, h4, by simpa [maxLen] using h5⟩
theorem own_free2 {w : World} {base : Nat} {e : TypeId} {n c g j size : Nat} {xs : List Value} (h : w.ownsRow base e size (.slice (some ⟨g, 0, none⟩) n c) n xs) : w.frozen? ⟨g, j, none⟩ = false := by
  rcases h.2 with ⟨h1, _⟩ | ⟨g', cap, cur, hv, _, hh, _⟩
  · cases h1
  · injection hv with hv _ _
    injection hv with hv
    injection hv with hv
    subst hv
    exact free_of_block hh
theorem kl_appC {Q : Exit → Act → World → Prop} {N : Nat} {L : Slots} {w : World} {ops : Array Oper} {rest : List Oper} {o : Oper} {d x y : Nat} (base : Nat) (v : Value) (n : Nat) (l : List CellV) (p : CellV) (hown : w.ownsRow base 63 6 v n (flatR cellE l)) (g c : Nat)
    (hr : w.rangeAt g 0 (cellC p)) (hn : n ≤ 1048576) (hbase : base ≤ w.heap.size)
    (hd : o.dst = some d) (hg : o.guard = none) (ho : o.op = .call { callee := .builtin .append, args := #[.tmp x, .tmp y], argTypes := #[58, 58] })
    (hs : lk L x = some v) (hx : lk L y = some (.slice (some ⟨g, 0, none⟩) 1 c)) (hN : Nat.blt d N = true)
    (h : ∀ v' w', w'.ownsRow base 63 6 v' (n + 1) (flatR cellE (l ++ [p])) → w.grownBy w' v.ownBlock → KL Try.prog ops Q rest N ((d, v') :: L) w') : KL Try.prog ops Q (o :: rest) N L w :=
  kl_appendN 58 63 _ 6 56 Try.underlying58 cellInfo3 rfl (by omega) base v n (flatR cellE l) hown g 0 1 c (cellC p) rfl hr (cellC_one p) (by omega) (by omega) hbase hd hg ho hs hx hN
    fun v' w' h1 h2 _ => h v' w' (by rw [flatR_snoc]; exact h1) h2
set_option maxRecDepth 100000 in
set_option maxHeartbeats 4000000 in
theorem of_any (a : SymA) (w : World) (hM : SymM w a) (hok : TypOk a.s.typ) (hnm : a.s.name.length ≤ 1000) :
    Calls Try.prog 50 #[.agg (symC a).toArray] w fun e w' => ∃ A n c, e = .returned (.slice A n c) ∧ Rw cellE w' A n (ofP a.s) ∧ n ≤ c ∧ c ≤ 9223372036854775807 ∧ Below w.heap.size w w' := by
  have HIL : Hid (a.s.init.length = a.im) := by show _ = _; have := hM.init.1; simpa using this
  have HFL := Lib.hid hM.typ.row.len
  have HOK := Lib.hid hok
  have HNM := Lib.hid hnm
  refine calls_kw Try.func50 rfl Try.ntmps50 rfl [(0, .agg (symC a).toArray)] rfl ?_
  refine kw_seq ?_
  refine kw_region ?_
  refine kl_boxL (Lay.start w) rfl rfl rfl rfl rfl ?_
  intro g1 w1 hg1 hb1 hL1
  have HB1 := Lib.hid hb1
  have HM1 := Lib.hid (hM.keep (.of_below hb1))
  have hl := hL1.at_ 0 rfl
  have rG : Hid (w1.rangeAt g1 0 (symC a)) := range_block hl
  have rT : Hid (w1.rangeAt g1 1 (typC a.s.typ a.FA a.fn a.fc)) := fun j u hu => by
    have : (symC a)[1 + j]? = some u := by
      match j, hu with
      | 0, hu => exact hu
      | 1, hu => exact hu
      | 2, hu => exact hu
      | 3, hu => exact hu
    have h2 := rG.out (1 + j) u this
    rwa [Nat.zero_add] at h2
  have C : Hid (∀ W, Below w1.heap.size w1 W → W.rangeAt g1 0 (symC a)) := fun W h j u hu => Keeps.of_below h _ _ (rG.out j u hu)
  have C0 : Hid (∀ W, Below w1.heap.size w1 W → W.cell? ⟨g1, 0, none⟩ = some (.string ⟨a.s.name.toArray⟩)) := fun W h => C.out W h 0 _ rfl
  have C1 : Hid (∀ W, Below w1.heap.size w1 W → W.cell? ⟨g1, 1, none⟩ = some (.int .i64 a.s.typ.kind)) := fun W h => C.out W h 1 _ rfl
  have C2 : Hid (∀ W, Below w1.heap.size w1 W → W.cell? ⟨g1, 2, none⟩ = some (.int .i64 a.s.typ.elem)) := fun W h => C.out W h 2 _ rfl
  have C3 : Hid (∀ W, Below w1.heap.size w1 W → W.cell? ⟨g1, 3, none⟩ = some (.int .i64 a.s.typ.n)) := fun W h => C.out W h 3 _ rfl
  have C5 : Hid (∀ W, Below w1.heap.size w1 W → W.cell? ⟨g1, 5, none⟩ = some (.bool a.s.retain)) := fun W h => C.out W h 5 _ rfl
  have C6 : Hid (∀ W, Below w1.heap.size w1 W → W.cell? ⟨g1, 6, none⟩ = some (.slice a.IA a.im a.ic)) := fun W h => C.out W h 6 _ rfl
  have HR1 : Hid (Below w1.heap.size w1 w1) := Below.refl _ _
  clear hg1 hb1 hL1 hl rG hM hok hnm
  repeat (first | refine kw_seq ?_ | refine kw_region ?_ | refine kl_nil ?_ | refine kq_then ?_ | (first | refine kl_move rfl rfl (.inl rfl) rfl rfl ?_ | refine kl_move rfl rfl (.inr rfl) rfl rfl ?_ | refine kl_const rfl rfl (.inl rfl) rfl ?_ | refine kl_const rfl rfl (.inr rfl) rfl ?_))
  refine KW.less [1, 3] ?_
  simp only [nrm, lk, Nat.reduceBEq, cond_true, cond_false]
  obtain ⟨nb, hnb⟩ : ∃ nb, (baseP a.s).length = nb := ⟨_, rfl⟩
  have HNB := Lib.hid hnb
  clear hnb
  refine kw_cutq (fun L W => ∃ v, Hid (Below w1.heap.size w1 W) ∧ Hid (W.ownsRow w1.heap.size 63 6 v nb (flatR cellE (baseP a.s))) ∧ L = [(1, .pointer (some ⟨g1, 0, none⟩)), (3, v)]) ?_ ?_
  · refine kw_block ?_
    have c1 := C1.out w1 HR1.out
    repeat (first | refine kw_seq ?_ | refine kw_region ?_ | refine kl_nil ?_ | refine kq_then ?_ | refine kq_block ?_ | refine kw_ift rfl ?_ | refine kw_iff rfl ?_ | refine kw_skip ?_ | refine kl_ung rfl rfl ?_ | refine kl_skipg rfl rfl rfl rfl ?_ | (first | refine kl_move rfl rfl (.inl rfl) rfl rfl ?_ | refine kl_move rfl rfl (.inr rfl) rfl rfl ?_ | refine kl_const rfl rfl (.inl rfl) rfl ?_ | refine kl_const rfl rfl (.inr rfl) rfl ?_) | ((first | refine kl_step rfl rfl rfl fun K hK => ?_ | refine kl_step0 rfl rfl rfl fun K hK => ?_); go_simp; (try go_bits); (first | refine hK _ _ ?_ | refine hK _ ?_); clear hK K))
    refine kl_call rfl rfl rfl Try.func73 rfl (by kernel_rfl) rfl ?_
    refine Calls.mono (value7R_any a.s.typ.kind w1) ?_
    rintro e _ ⟨rfl, rfl⟩
    refine ⟨_, rfl, ?_⟩
    by_cases d1 : 1 ≤ a.s.typ.kind ∧ a.s.typ.kind ≤ 6
    · have t1 : (decide (1 ≤ a.s.typ.kind) && decide (a.s.typ.kind ≤ 6)) = true := by rw [decide_eq_true d1.1, decide_eq_true d1.2]; rfl
      have hP : Hid (baseP a.s = [⟨a.s.name, a.s.typ.kind, false, 0, 0, 0⟩]) := by show _ = _; unfold baseP; rw [if_pos d1]
      rw [t1]
      clear d1 t1
      have c0 := C0.out w1 HR1.out
      have H0O : Hid (w1.ownsRow w1.heap.size 63 6 (.slice none 0 0) 0 (flatR cellE [])) := World.ownsRow_nil _ _ _ _
      have H0B := HR1
      repeat (first | refine kw_seq ?_ | refine kw_block ?_ | refine kw_region ?_ | refine kl_nil ?_ | refine kq_then ?_ | refine kq_block ?_ | refine kw_ift rfl ?_ | refine kw_iff rfl ?_ | refine kw_skip ?_ | refine kl_ung rfl rfl ?_ | refine kl_skipg rfl rfl rfl rfl ?_ | refine kl_build 63 _ _ rfl rfl rfl (by rfl) (by rfl) (cellBuilt2 _ _) ?_ | (first | refine kl_move rfl rfl (.inl rfl) rfl rfl ?_ | refine kl_move rfl rfl (.inr rfl) rfl rfl ?_ | refine kl_const rfl rfl (.inl rfl) rfl ?_ | refine kl_const rfl rfl (.inr rfl) rfl ?_) | ((first | refine kl_step rfl rfl rfl fun K hK => ?_ | refine kl_step0 rfl rfl rfl fun K hK => ?_); go_simp; (try go_bits); (first | refine hK _ _ ?_ | refine hK _ ?_); clear hK K))
      refine (show KL _ _ _ _ _ _ (w1.alloc (.cells (cellC (⟨a.s.name, a.s.typ.kind, false, 0, 0, 0⟩)).toArray 63)) from ?_)
      have hr5 := rangeAt_new w1 (cellC (⟨a.s.name, a.s.typ.kind, false, 0, 0, 0⟩)).toArray 63 w1.heap.size rfl
      have hb5 : Below w1.heap.size w1 (w1.alloc (.cells (cellC (⟨a.s.name, a.s.typ.kind, false, 0, 0, 0⟩)).toArray 63)) := (Below.refl _ _).alloc (Nat.le_refl _) _
      have HO5 := Lib.hid (own_below H0O.out hb5)
      have HB5 := Lib.hid (below_then H0B.out hb5 H0B.out.size)
      have HR5 : Hid ((w1.alloc (.cells (cellC (⟨a.s.name, a.s.typ.kind, false, 0, 0, 0⟩)).toArray 63)).rangeAt w1.heap.size 0 (cellC (⟨a.s.name, a.s.typ.kind, false, 0, 0, 0⟩))) := hr5
      clear hr5 hb5
      generalize w1.alloc (.cells (cellC (⟨a.s.name, a.s.typ.kind, false, 0, 0, 0⟩)).toArray 63) = w5 at HO5 HB5 HR5 ⊢
      repeat (first | (first | refine kl_move rfl rfl (.inl rfl) rfl rfl ?_ | refine kl_move rfl rfl (.inr rfl) rfl rfl ?_ | refine kl_const rfl rfl (.inl rfl) rfl ?_ | refine kl_const rfl rfl (.inr rfl) rfl ?_) | ((first | refine kl_step rfl rfl rfl fun K hK => ?_ | refine kl_step0 rfl rfl rfl fun K hK => ?_); go_simp; (try go_bits); (first | refine hK _ _ ?_ | refine hK _ ?_); clear hK K))
      refine kl_appC w1.heap.size _ 0 ([]) (⟨a.s.name, a.s.typ.kind, false, 0, 0, 0⟩) HO5.out w1.heap.size 1 HR5.out (by omega) HB5.out.size rfl rfl rfl rfl rfl rfl ?_
      intro v6 w6 ho6 hg6
      have HB6 := Lib.hid (below_appendN HB5.out hg6 HO5.out HB5.out.size)
      have HO6 := Lib.hid ho6
      clear ho6 hg6 HO5 HB5 HR5
      repeat (first | refine kw_seq ?_ | refine kw_region ?_ | refine kl_nil ?_ | refine kq_then ?_ | refine kq_block ?_ | refine kw_ift rfl ?_ | refine kw_iff rfl ?_ | refine kw_skip ?_ | refine kl_ung rfl rfl ?_ | refine kl_skipg rfl rfl rfl rfl ?_ | (first | refine kl_move rfl rfl (.inl rfl) rfl rfl ?_ | refine kl_move rfl rfl (.inr rfl) rfl rfl ?_ | refine kl_const rfl rfl (.inl rfl) rfl ?_ | refine kl_const rfl rfl (.inr rfl) rfl ?_) | ((first | refine kl_step rfl rfl rfl fun K hK => ?_ | refine kl_step0 rfl rfl rfl fun K hK => ?_); go_simp; (try go_bits); (first | refine hK _ _ ?_ | refine hK _ ?_); clear hK K))
      refine kq_cut [1, 3] ?_
      refine ⟨v6, HB6, ?_, rfl⟩
      show World.ownsRow _ _ _ _ _ _ _
      have := HO6.out
      rw [← HNB.out, hP.out]; exact this
    have t1 : (decide (1 ≤ a.s.typ.kind) && decide (a.s.typ.kind ≤ 6)) = false := by
      rw [Bool.and_eq_false_iff, decide_eq_false_iff_not, decide_eq_false_iff_not]; omega
    rw [t1]
    clear t1
    by_cases d7 : a.s.typ.kind = 7
    · have q7 : (a.s.typ.kind == 7) = true := beq_iff_eq.2 d7
      obtain ⟨N, hN⟩ : ∃ N : Nat, a.s.typ.n = (N : Int) := ⟨a.s.typ.n.toNat, by have := (HOK.out.n d7).1; omega⟩
      have hP : Hid (baseP a.s = (List.range N).map (arrC a.s)) := by show _ = _; unfold baseP; rw [if_neg d1, if_pos d7, hN]; rfl
      have HN8 : Hid (N ≤ 8) := by show _ ≤ _; have := (HOK.out.n d7).2; omega
      rw [hN] at C3
      have HNE := Lib.hid hN
      clear d1 d7 hN
      repeat (first | refine kw_seq ?_ | refine kw_region ?_ | refine kl_nil ?_ | refine kq_then ?_ | refine kq_block ?_ | refine kw_ift rfl ?_ | refine kw_iff rfl ?_ | refine kw_skip ?_ | refine kl_ung rfl rfl ?_ | refine kl_skipg rfl rfl rfl rfl ?_ | (first | refine kl_move rfl rfl (.inl rfl) rfl rfl ?_ | refine kl_move rfl rfl (.inr rfl) rfl rfl ?_ | refine kl_const rfl rfl (.inl rfl) rfl ?_ | refine kl_const rfl rfl (.inr rfl) rfl ?_) | ((first | refine kl_step rfl rfl rfl fun K hK => ?_ | refine kl_step0 rfl rfl rfl fun K hK => ?_); go_simp; (try go_bits); (first | refine hK _ _ ?_ | refine hK _ ?_); clear hK K))
      refine KW.less [1, 3, 4] ?_
      simp only [nrm, lk, Nat.reduceBEq, cond_true, cond_false]
      refine kw_block ?_
      refine kw_loop (fun mm L W => ∃ (k : Nat) (v : Value), k ≤ N ∧ mm = N - k ∧ Hid (Below w1.heap.size w1 W) ∧ Hid (W.ownsRow w1.heap.size 63 6 v k (flatR cellE ((List.range k).map (arrC a.s)))) ∧ L = [(1, .pointer (some ⟨g1, 0, none⟩)), (3, v), (4, .int .i64 (k : Int))]) ⟨0, .slice none 0 0, by omega, rfl, HR1, World.ownsRow_nil _ _ _ _, rfl⟩ ?_
      clear c1 q7
      rintro mm L W ⟨k, v, hk, rfl, hb, ho, rfl⟩
      have c3 := C3.out W hb.out
      by_cases hlt : k < N
      case neg =>
        obtain rfl : N = k := by omega
        have t1 : decide ((N : Int) < (N : Int)) = false := by simp
        have t1n : decide (N < N) = false := by simp
        clear hlt
        repeat (first | refine kw_seq ?_ | refine kw_block ?_ | refine kw_region ?_ | refine kl_nil ?_ | refine kq_then ?_ | refine kq_block ?_ | refine kw_ift rfl ?_ | refine kw_iff rfl ?_ | refine kw_skip ?_ | refine kw_exit ?_ | refine kq_then_exit ?_ | refine kq_block_here rfl ?_ | refine kq_again_exit ?_ | refine kl_ung rfl rfl ?_ | refine kl_skipg rfl rfl rfl rfl ?_ | (first | refine kl_move rfl rfl (.inl rfl) rfl rfl ?_ | refine kl_move rfl rfl (.inr rfl) rfl rfl ?_ | refine kl_const rfl rfl (.inl rfl) rfl ?_ | refine kl_const rfl rfl (.inr rfl) rfl ?_) | ((first | refine kl_step rfl rfl rfl fun K hK => ?_ | refine kl_step0 rfl rfl rfl fun K hK => ?_); go_simp; (try go_bits); (first | refine hK _ _ ?_ | refine hK _ ?_); clear hK K))
        refine kq_cut [1, 3] ?_
        refine ⟨v, hb, ?_, rfl⟩
        show World.ownsRow _ _ _ _ _ _ _
        have h1 := ho.out
        have h2 := HNB.out
        rw [hP.out] at h2 ⊢
        have h3 : N = nb := by simpa using h2
        rw [← h3]; exact h1
      have t1 : decide ((k : Int) < (N : Int)) = true := by rw [decide_eq_true_eq]; omega
      have t1n : decide (k < N) = true := decide_eq_true hlt
      obtain ⟨nk, hnk⟩ : ∃ nk, k + 1 = nk := ⟨_, rfl⟩
      have k1 : (k : Int) + 1 = (nk : Int) := by omega
      have k2 : (0 : Int) ≤ nk := by omega
      have k3 : (nk : Int) ≤ 1048576 := by have := HN8.out; omega
      have hk8 : k < 10 := by have := HN8.out; omega
      have HK := Lib.hid (And.intro hnk hlt)
      clear hlt hk hnk
      repeat (first | refine kw_seq ?_ | refine kw_block ?_ | refine kw_region ?_ | refine kl_nil ?_ | refine kq_then ?_ | refine kq_block ?_ | refine kw_ift rfl ?_ | refine kw_iff rfl ?_ | refine kw_skip ?_ | refine kl_ung rfl rfl ?_ | refine kl_skipg rfl rfl rfl rfl ?_ | (first | refine kl_move rfl rfl (.inl rfl) rfl rfl ?_ | refine kl_move rfl rfl (.inr rfl) rfl rfl ?_ | refine kl_const rfl rfl (.inl rfl) rfl ?_ | refine kl_const rfl rfl (.inr rfl) rfl ?_) | ((first | refine kl_step rfl rfl rfl fun K hK => ?_ | refine kl_step0 rfl rfl rfl fun K hK => ?_); go_simp; (try go_bits); (first | refine hK _ _ ?_ | refine hK _ ?_); clear hK K))
      have hR := below_then hb.out ((Below.refl _ W).drew) hb.out.size
      have HO4 := Lib.hid (own_below ho.out ((Below.refl _ W).drew))
      have r0 := C0.out
      have r2 := C2.out
      obtain ⟨N1, hN1⟩ : ∃ N1, a.s.name ++ [91] = N1 := ⟨_, rfl⟩
      obtain ⟨N2, hN2⟩ : ∃ N2, N1 ++ digS k = N2 := ⟨_, rfl⟩
      obtain ⟨N3, hN3⟩ : ∃ N3, N2 ++ [93] = N3 := ⟨_, rfl⟩
      obtain ⟨dk, hdk⟩ : ∃ dk, digS k = dk := ⟨_, rfl⟩
      have hdl : dk.length = 1 := by rw [← hdk]; rfl
      have z1 : a.s.name.length + [(91 : UInt8)].length ≤ 1000000 := by have := HNM.out; simp; omega
      have z2 : N1.length + dk.length ≤ 1000000 := by have := HNM.out; rw [← hN1]; simp; omega
      have z3 : N2.length + [(93 : UInt8)].length ≤ 1000000 := by have := HNM.out; rw [← hN2, ← hN1, hdk]; simp; omega
      have HZ1 := Lib.hid (And.intro hN1 z1)
      have HZ2 : Hid (N1 ++ dk = N2 ∧ N1.length + dk.length ≤ 1000000) := ⟨by rw [← hdk]; exact hN2, z2⟩
      have HZ3 := Lib.hid (And.intro hN3 z3)
      have HAC : Hid (arrC a.s k = ⟨N3, a.s.typ.elem, false, 0, if k = 0 then (N : Int) else 0, 0⟩) := by show _ = _; rw [← hN3, ← hN2, ← hN1, ← HNE.out]; rfl
      have HDK := Lib.hid hdk
      clear hN1 hN2 hN3 hdk hdl z1 z2 z3 t1 t1n c3 ho
      refine kw_cutq (fun L W7 => ∃ (w5 : World) (g6 : Nat), Hid (w5.ownsRow w1.heap.size 63 6 v k (flatR cellE ((List.range k).map (arrC a.s)))) ∧ Hid (Below w1.heap.size w1 w5) ∧ Hid (Lay w5 W7 [(g6, (cellC ⟨N3, a.s.typ.elem, false, 0, 0, 0⟩).toArray, 63)]) ∧ L = [(1, .pointer (some ⟨g1, 0, none⟩)), (3, v), (4, .int .i64 (k : Int)), (5, .pointer (some ⟨g6, 0, none⟩))]) ?_ ?_
      · refine kw_region_o (Below w1.heap.size w1) [true, true, true, true, false, true, true, true, true, true, true, false, false] (by kernel_rfl) (by kernel_rfl) hR ?_
        clear hb
        generalize W.drew = w4 at *
        refine kt_seg [0, 1, 2, 3, 7, 8, 9] [4, 5, 6, 10, 11, 12] (by kernel_rfl) ?_
        simp only [pickO, pickF, nthO, nthB]
        repeat (first | refine kf_nil ?_ | refine kf_ung rfl rfl ?_ | refine kf_skipg rfl rfl rfl rfl ?_ | (first | refine kf_move rfl rfl (.inl rfl) rfl rfl ?_ | refine kf_move rfl rfl (.inr rfl) rfl rfl ?_ | refine kf_const rfl rfl (.inl rfl) rfl ?_ | refine kf_const rfl rfl (.inr rfl) rfl ?_) | (refine kf_val rfl rfl rfl ?_; apply Exists.intro; refine And.intro (fun W hW N hN => ?_) ?_; · (go_simp; (try go_bits); exact hN)))
        refine kf_cat _ [91] HZ1.out.1 HZ1.out.2 rfl rfl rfl rfl rfl rfl rfl rfl ?_
        repeat (first | refine kf_nil ?_ | refine kf_ung rfl rfl ?_ | refine kf_skipg rfl rfl rfl rfl ?_ | (first | refine kf_move rfl rfl (.inl rfl) rfl rfl ?_ | refine kf_move rfl rfl (.inr rfl) rfl rfl ?_ | refine kf_const rfl rfl (.inl rfl) rfl ?_ | refine kf_const rfl rfl (.inr rfl) rfl ?_) | (refine kf_val rfl rfl rfl ?_; apply Exists.intro; refine And.intro (fun W hW N hN => ?_) ?_; · (go_simp; (try go_bits); exact hN)))
        refine kt_more ?_
        refine kt_fork2 4 11 (by kernel_rfl) ?_ ?_
        all_goals simp only [pickO, pickF, nthO, nthB]
        · refine kf_ch ?_
          refine kl_call rfl rfl rfl Try.func74 rfl (by kernel_rfl) rfl ?_
          refine Calls.mono (digits_any k hk8 w4) ?_
          rintro e w5 ⟨rfl, hb5⟩
          have HO5 := Lib.hid (own_below HO4.out hb5)
          have hR5 := below_then hR hb5 hR.size
          rw [HDK.out]
          clear hb5 HO4 hR
          refine ⟨_, rfl, ?_⟩
          refine kl_nil ?_
          refine kq_f hR5 ?_
          repeat (first | refine kf_nil ?_ | refine kf_ung rfl rfl ?_ | refine kf_skipg rfl rfl rfl rfl ?_ | (first | refine kf_move rfl rfl (.inl rfl) rfl rfl ?_ | refine kf_move rfl rfl (.inr rfl) rfl rfl ?_ | refine kf_const rfl rfl (.inl rfl) rfl ?_ | refine kf_const rfl rfl (.inr rfl) rfl ?_) | (refine kf_val rfl rfl rfl ?_; apply Exists.intro; refine And.intro (fun W hW N hN => ?_) ?_; · (go_simp; (try go_bits); exact hN)))
          refine kt_more ?_
          refine kt_seg [5, 6, 10, 11, 12] [] (by kernel_rfl) ?_
          simp only [pickO, pickF, nthO, nthB]
          repeat (first | refine kf_nil ?_ | refine kf_ung rfl rfl ?_ | refine kf_skipg rfl rfl rfl rfl ?_ | (first | refine kf_move rfl rfl (.inl rfl) rfl rfl ?_ | refine kf_move rfl rfl (.inr rfl) rfl rfl ?_ | refine kf_const rfl rfl (.inl rfl) rfl ?_ | refine kf_const rfl rfl (.inr rfl) rfl ?_) | (refine kf_val rfl rfl rfl ?_; apply Exists.intro; refine And.intro (fun W hW N hN => ?_) ?_; · (go_simp; (try go_bits); exact hN)))
          refine kf_cat _ _ HZ2.out.1 HZ2.out.2 rfl rfl rfl rfl rfl rfl rfl rfl ?_
          repeat (first | refine kf_nil ?_ | refine kf_ung rfl rfl ?_ | refine kf_skipg rfl rfl rfl rfl ?_ | (first | refine kf_move rfl rfl (.inl rfl) rfl rfl ?_ | refine kf_move rfl rfl (.inr rfl) rfl rfl ?_ | refine kf_const rfl rfl (.inl rfl) rfl ?_ | refine kf_const rfl rfl (.inr rfl) rfl ?_) | (refine kf_val rfl rfl rfl ?_; apply Exists.intro; refine And.intro (fun W hW N hN => ?_) ?_; · (go_simp; (try go_bits); exact hN)))
          refine kf_cat _ [93] HZ3.out.1 HZ3.out.2 rfl rfl rfl rfl rfl rfl rfl rfl ?_
          repeat (first | refine kf_nil ?_ | refine kf_ung rfl rfl ?_ | refine kf_skipg rfl rfl rfl rfl ?_ | (first | refine kf_move rfl rfl (.inl rfl) rfl rfl ?_ | refine kf_move rfl rfl (.inr rfl) rfl rfl ?_ | refine kf_const rfl rfl (.inl rfl) rfl ?_ | refine kf_const rfl rfl (.inr rfl) rfl ?_) | (refine kf_val rfl rfl rfl ?_; apply Exists.intro; refine And.intro (fun W hW N hN => ?_) ?_; · (go_simp; (try go_bits); exact hN)))
          refine kf_ch ?_
          refine kl_zeroL (Lay.start w5) cellZero rfl rfl rfl rfl ?_
          intro g6 w6 hg6 hb6 hL6
          have hR6 := below_then hR5 hb6 hR5.size
          clear hg6 hb6
          refine kl_nil ?_
          refine kq_f hR6 ?_
          repeat (first | refine kf_nil ?_ | refine kf_ung rfl rfl ?_ | refine kf_skipg rfl rfl rfl rfl ?_ | (first | refine kf_move rfl rfl (.inl rfl) rfl rfl ?_ | refine kf_move rfl rfl (.inr rfl) rfl rfl ?_ | refine kf_const rfl rfl (.inl rfl) rfl ?_ | refine kf_const rfl rfl (.inr rfl) rfl ?_) | (refine kf_val rfl rfl rfl ?_; apply Exists.intro; refine And.intro (fun W hW N hN => ?_) ?_; · (go_simp; (try go_bits); exact hN)))
          refine kf_ch ?_
          refine kl_putL (cells := (cellC ⟨N3, a.s.typ.elem, false, 0, 0, 0⟩).toArray) hL6 0 rfl (cellInfo _) rfl (cellC_agg _) rfl rfl rfl rfl rfl (fun hL7 => ?_)
          generalize World.setRow _ g6 (cellC ⟨N3, a.s.typ.elem, false, 0, 0, 0⟩).toArray = w7 at hL7 ⊢
          have hR7 := below_then hR5 hL7.below hR5.size
          refine kl_nil ?_
          refine kq_f hR7 ?_
          repeat (first | refine kf_nil ?_ | refine kf_ung rfl rfl ?_ | refine kf_skipg rfl rfl rfl rfl ?_ | (first | refine kf_move rfl rfl (.inl rfl) rfl rfl ?_ | refine kf_move rfl rfl (.inr rfl) rfl rfl ?_ | refine kf_const rfl rfl (.inl rfl) rfl ?_ | refine kf_const rfl rfl (.inr rfl) rfl ?_) | (refine kf_val rfl rfl rfl ?_; apply Exists.intro; refine And.intro (fun W hW N hN => ?_) ?_; · (go_simp; (try go_bits); exact hN)))
          refine kt_done ?_
          refine kq_cut [1, 3, 4, 5] ?_
          exact ⟨_, g6, HO5, hR5, hL7, rfl⟩
        · refine kf_ch ?_
          refine kl_zeroL (Lay.start w4) cellZero rfl rfl rfl rfl ?_
          intro g6 w6 hg6 hb6 hL6
          have hR6 := below_then hR hb6 hR.size
          have HO5 := HO4
          have hR5 := hR
          clear hg6 hb6 HO4 hR
          refine kl_nil ?_
          refine kq_f hR6 ?_
          repeat (first | refine kf_nil ?_ | refine kf_ung rfl rfl ?_ | refine kf_skipg rfl rfl rfl rfl ?_ | (first | refine kf_move rfl rfl (.inl rfl) rfl rfl ?_ | refine kf_move rfl rfl (.inr rfl) rfl rfl ?_ | refine kf_const rfl rfl (.inl rfl) rfl ?_ | refine kf_const rfl rfl (.inr rfl) rfl ?_) | (refine kf_val rfl rfl rfl ?_; apply Exists.intro; refine And.intro (fun W hW N hN => ?_) ?_; · (go_simp; (try go_bits); exact hN)))
          refine kt_more ?_
          refine kt_seg [4, 5, 6, 10, 12] [] (by kernel_rfl) ?_
          simp only [pickO, pickF, nthO, nthB]
          refine kf_ch ?_
          refine kl_call rfl rfl rfl Try.func74 rfl (by kernel_rfl) rfl ?_
          refine Calls.mono (digits_any k hk8 w6) ?_
          rintro e w9 ⟨rfl, hb5⟩
          have hL6 := hL6.next hb5
          have hR6 := below_then hR6 hb5 hR6.size
          rw [HDK.out]
          clear hb5
          refine ⟨_, rfl, ?_⟩
          refine kl_nil ?_
          refine kq_f hR6 ?_
          repeat (first | refine kf_nil ?_ | refine kf_ung rfl rfl ?_ | refine kf_skipg rfl rfl rfl rfl ?_ | (first | refine kf_move rfl rfl (.inl rfl) rfl rfl ?_ | refine kf_move rfl rfl (.inr rfl) rfl rfl ?_ | refine kf_const rfl rfl (.inl rfl) rfl ?_ | refine kf_const rfl rfl (.inr rfl) rfl ?_) | (refine kf_val rfl rfl rfl ?_; apply Exists.intro; refine And.intro (fun W hW N hN => ?_) ?_; · (go_simp; (try go_bits); exact hN)))
          refine kf_cat _ _ HZ2.out.1 HZ2.out.2 rfl rfl rfl rfl rfl rfl rfl rfl ?_
          repeat (first | refine kf_nil ?_ | refine kf_ung rfl rfl ?_ | refine kf_skipg rfl rfl rfl rfl ?_ | (first | refine kf_move rfl rfl (.inl rfl) rfl rfl ?_ | refine kf_move rfl rfl (.inr rfl) rfl rfl ?_ | refine kf_const rfl rfl (.inl rfl) rfl ?_ | refine kf_const rfl rfl (.inr rfl) rfl ?_) | (refine kf_val rfl rfl rfl ?_; apply Exists.intro; refine And.intro (fun W hW N hN => ?_) ?_; · (go_simp; (try go_bits); exact hN)))
          refine kf_cat _ [93] HZ3.out.1 HZ3.out.2 rfl rfl rfl rfl rfl rfl rfl rfl ?_
          repeat (first | refine kf_nil ?_ | refine kf_ung rfl rfl ?_ | refine kf_skipg rfl rfl rfl rfl ?_ | (first | refine kf_move rfl rfl (.inl rfl) rfl rfl ?_ | refine kf_move rfl rfl (.inr rfl) rfl rfl ?_ | refine kf_const rfl rfl (.inl rfl) rfl ?_ | refine kf_const rfl rfl (.inr rfl) rfl ?_) | (refine kf_val rfl rfl rfl ?_; apply Exists.intro; refine And.intro (fun W hW N hN => ?_) ?_; · (go_simp; (try go_bits); exact hN)))
          repeat (first | refine kf_nil ?_ | refine kf_ung rfl rfl ?_ | refine kf_skipg rfl rfl rfl rfl ?_ | (first | refine kf_move rfl rfl (.inl rfl) rfl rfl ?_ | refine kf_move rfl rfl (.inr rfl) rfl rfl ?_ | refine kf_const rfl rfl (.inl rfl) rfl ?_ | refine kf_const rfl rfl (.inr rfl) rfl ?_) | (refine kf_val rfl rfl rfl ?_; apply Exists.intro; refine And.intro (fun W hW N hN => ?_) ?_; · (go_simp; (try go_bits); exact hN)))
          refine kf_ch ?_
          refine kl_putL (cells := (cellC ⟨N3, a.s.typ.elem, false, 0, 0, 0⟩).toArray) hL6 0 rfl (cellInfo _) rfl (cellC_agg _) rfl rfl rfl rfl rfl (fun hL7 => ?_)
          generalize World.setRow _ g6 (cellC ⟨N3, a.s.typ.elem, false, 0, 0, 0⟩).toArray = w7 at hL7 ⊢
          have hR7 := below_then hR5 hL7.below hR5.size
          refine kl_nil ?_
          refine kq_f hR7 ?_
          repeat (first | refine kf_nil ?_ | refine kf_ung rfl rfl ?_ | refine kf_skipg rfl rfl rfl rfl ?_ | (first | refine kf_move rfl rfl (.inl rfl) rfl rfl ?_ | refine kf_move rfl rfl (.inr rfl) rfl rfl ?_ | refine kf_const rfl rfl (.inl rfl) rfl ?_ | refine kf_const rfl rfl (.inr rfl) rfl ?_) | (refine kf_val rfl rfl rfl ?_; apply Exists.intro; refine And.intro (fun W hW N hN => ?_) ?_; · (go_simp; (try go_bits); exact hN)))
          refine kt_done ?_
          refine kq_cut [1, 3, 4, 5] ?_
          exact ⟨_, g6, HO5, hR5, hL7, rfl⟩
      clear hb hR HO4
      rintro L w7 ⟨w5, g6, HO5, HR5, HL7, rfl⟩
      have hL7 := HL7.out
      have hR7 := below_then HR5.out hL7.below HR5.out.size
      clear HL7
      clear r0 r2
      have HB7 := Lib.hid hR7
      clear hR7
      have hcut : ∀ cc : CellV, arrC a.s k = cc → ∀ (w8 : World), Lay w5 w8 [(g6, (cellC cc).toArray, 63)] → Hid (Lay w5 w8 [(g6, (cellC (arrC a.s k)).toArray, 63)]) := fun cc e w8 h => by show Lay _ _ _; rw [e]; exact h
      have HCUT := Lib.hid hcut
      clear hcut
      repeat (first | refine kw_seq ?_)
      refine kw_region ?_
      obtain ⟨qb, hqb⟩ : ∃ qb, ((k : Int) == 0) = qb := ⟨_, rfl⟩
      repeat (first | refine kl_nil ?_ | (first | refine kl_move rfl rfl (.inl rfl) rfl rfl ?_ | refine kl_move rfl rfl (.inr rfl) rfl rfl ?_ | refine kl_const rfl rfl (.inl rfl) rfl ?_ | refine kl_const rfl rfl (.inr rfl) rfl ?_) | ((first | refine kl_step rfl rfl rfl fun K hK => ?_ | refine kl_step0 rfl rfl rfl fun K hK => ?_); go_simp; (try go_bits); (first | refine hK _ _ ?_ | refine hK _ ?_); clear hK K))
      cases qb
      case false =>
        have hk0 : k ≠ 0 := by intro e; subst e; simp at hqb
        rw [if_neg hk0] at HAC
        have hL8 := HCUT.out _ HAC.out _ hL7
        clear hk0 hqb hL7 HB7 HAC HCUT
        generalize w7 = W8 at hL8 ⊢
        have H8O := Lib.hid (own_below HO5.out hL8.out.below)
        have H8B := Lib.hid (below_then HR5.out hL8.out.below HR5.out.size)
        repeat (first | refine kl_nil ?_ | refine kq_then ?_ | refine kw_seq ?_ | refine kw_region ?_ | refine kw_iff rfl ?_ | refine kw_skip ?_)
        repeat (first | refine kl_getL hL8.out 0 rfl Try.underlying63 rfl (cellInfo _) rfl rfl rfl rfl rfl ?_ | (first | refine kl_move rfl rfl (.inl rfl) rfl rfl ?_ | refine kl_move rfl rfl (.inr rfl) rfl rfl ?_ | refine kl_const rfl rfl (.inl rfl) rfl ?_ | refine kl_const rfl rfl (.inr rfl) rfl ?_))
        clear hL8 HO5 HR5
        obtain ⟨cc, hcc⟩ : ∃ cc, arrC a.s k = cc := ⟨_, rfl⟩
        rw [hcc]
        have HCC := Lib.hid hcc
        clear hcc
        refine kl_buildSlice_row (z := cellC cellZ) (cs := cellC (cc)) Try.underlying58 cellZero cellSize rfl (by omega) (by omega) rfl rfl rfl rfl rfl ?_
        have hr5 := rangeAt_new W8 (cellC (cc)).toArray 63 W8.heap.size rfl
        have hb5 : Below W8.heap.size W8 (W8.alloc (.cells (cellC (cc)).toArray 63)) := (Below.refl _ _).alloc (Nat.le_refl _) _
        have HO5 := Lib.hid (own_below H8O.out hb5)
        have HB5 := Lib.hid (below_then H8B.out hb5 H8B.out.size)
        have HR5 : Hid ((W8.alloc (.cells (cellC (cc)).toArray 63)).rangeAt W8.heap.size 0 (cellC (cc))) := hr5
        clear hr5 hb5
        generalize W8.alloc (.cells (cellC (cc)).toArray 63) = w5 at HO5 HB5 HR5 ⊢
        generalize W8.heap.size = g5 at HR5 ⊢
        repeat (first | (first | refine kl_move rfl rfl (.inl rfl) rfl rfl ?_ | refine kl_move rfl rfl (.inr rfl) rfl rfl ?_ | refine kl_const rfl rfl (.inl rfl) rfl ?_ | refine kl_const rfl rfl (.inr rfl) rfl ?_) | ((first | refine kl_step rfl rfl rfl fun K hK => ?_ | refine kl_step0 rfl rfl rfl fun K hK => ?_); go_simp; (try go_bits); (first | refine hK _ _ ?_ | refine hK _ ?_); clear hK K))
        refine kl_appC w1.heap.size _ k ((List.range k).map (arrC a.s)) (cc) HO5.out g5 1 HR5.out (by omega) HB5.out.size rfl rfl rfl rfl rfl rfl ?_
        intro v6 w6 ho6 hg6
        have HB6 := Lib.hid (below_appendN HB5.out hg6 HO5.out HB5.out.size)
        have HO6 := Lib.hid ho6
        clear ho6 hg6 HO5 HB5 HR5
        rw [← HCC.out, ← arr_next, HK.out.1] at HO6
        repeat (first | refine kw_seq ?_ | refine kw_block ?_ | refine kw_region ?_ | refine kl_nil ?_ | refine kq_then ?_ | refine kq_block ?_ | refine kw_ift rfl ?_ | refine kw_iff rfl ?_ | refine kw_skip ?_ | refine kl_ung rfl rfl ?_ | refine kl_skipg rfl rfl rfl rfl ?_ | (first | refine kl_move rfl rfl (.inl rfl) rfl rfl ?_ | refine kl_move rfl rfl (.inr rfl) rfl rfl ?_ | refine kl_const rfl rfl (.inl rfl) rfl ?_ | refine kl_const rfl rfl (.inr rfl) rfl ?_) | ((first | refine kl_step rfl rfl rfl fun K hK => ?_ | refine kl_step0 rfl rfl rfl fun K hK => ?_); go_simp; (try go_bits); (first | refine hK _ _ ?_ | refine hK _ ?_); clear hK K))
        refine kq_again (N - nk) [1, 3, 4] (by have := HK.out; omega) ?_
        exact ⟨nk, v6, by have := HK.out; omega, rfl, HB6, HO6, rfl⟩
      have hk0 : k = 0 := by have := beq_iff_eq.1 hqb; omega
      rw [if_pos hk0] at HAC
      have c3 := C3.out w7 HB7.out
      have c4 : w7.cell? ⟨g6, 4, none⟩ = some (.int .i64 0) := hL7.get (j := 4) 0 rfl rfl
      have f4 := hL7.free 0 rfl 4
      have hL9 := hL7.cell (cs := cellC ⟨N3, a.s.typ.elem, false, 0, 0, 0⟩) 0 rfl 4 (.int .i64 (N : Int))
      have hL8 := HCUT.out _ HAC.out _ hL9
      clear hk0 hqb hL7 HB7 HAC HCUT hL9
      repeat (first | refine kl_nil ?_ | refine kq_then ?_ | refine kw_seq ?_ | refine kw_region ?_ | refine kw_ift rfl ?_ | (first | refine kl_move rfl rfl (.inl rfl) rfl rfl ?_ | refine kl_move rfl rfl (.inr rfl) rfl rfl ?_ | refine kl_const rfl rfl (.inl rfl) rfl ?_ | refine kl_const rfl rfl (.inr rfl) rfl ?_) | ((first | refine kl_step rfl rfl rfl fun K hK => ?_ | refine kl_step0 rfl rfl rfl fun K hK => ?_); go_simp; (try go_bits); (first | refine hK _ _ ?_ | refine hK _ ?_); clear hK K))
      clear c3 c4 f4
      generalize w7.setCell ⟨g6, 4, none⟩ (.int .i64 (N : Int)) = W8 at hL8 ⊢
      have H8O := Lib.hid (own_below HO5.out hL8.out.below)
      have H8B := Lib.hid (below_then HR5.out hL8.out.below HR5.out.size)
      repeat (first | refine kl_nil ?_ | refine kq_then ?_ | refine kw_seq ?_ | refine kw_region ?_ | refine kw_iff rfl ?_ | refine kw_skip ?_)
      repeat (first | refine kl_getL hL8.out 0 rfl Try.underlying63 rfl (cellInfo _) rfl rfl rfl rfl rfl ?_ | (first | refine kl_move rfl rfl (.inl rfl) rfl rfl ?_ | refine kl_move rfl rfl (.inr rfl) rfl rfl ?_ | refine kl_const rfl rfl (.inl rfl) rfl ?_ | refine kl_const rfl rfl (.inr rfl) rfl ?_))
      clear hL8 HO5 HR5
      obtain ⟨cc, hcc⟩ : ∃ cc, arrC a.s k = cc := ⟨_, rfl⟩
      rw [hcc]
      have HCC := Lib.hid hcc
      clear hcc
      refine kl_buildSlice_row (z := cellC cellZ) (cs := cellC (cc)) Try.underlying58 cellZero cellSize rfl (by omega) (by omega) rfl rfl rfl rfl rfl ?_
      have hr5 := rangeAt_new W8 (cellC (cc)).toArray 63 W8.heap.size rfl
      have hb5 : Below W8.heap.size W8 (W8.alloc (.cells (cellC (cc)).toArray 63)) := (Below.refl _ _).alloc (Nat.le_refl _) _
      have HO5 := Lib.hid (own_below H8O.out hb5)
      have HB5 := Lib.hid (below_then H8B.out hb5 H8B.out.size)
      have HR5 : Hid ((W8.alloc (.cells (cellC (cc)).toArray 63)).rangeAt W8.heap.size 0 (cellC (cc))) := hr5
      clear hr5 hb5
      generalize W8.alloc (.cells (cellC (cc)).toArray 63) = w5 at HO5 HB5 HR5 ⊢
      generalize W8.heap.size = g5 at HR5 ⊢
      repeat (first | (first | refine kl_move rfl rfl (.inl rfl) rfl rfl ?_ | refine kl_move rfl rfl (.inr rfl) rfl rfl ?_ | refine kl_const rfl rfl (.inl rfl) rfl ?_ | refine kl_const rfl rfl (.inr rfl) rfl ?_) | ((first | refine kl_step rfl rfl rfl fun K hK => ?_ | refine kl_step0 rfl rfl rfl fun K hK => ?_); go_simp; (try go_bits); (first | refine hK _ _ ?_ | refine hK _ ?_); clear hK K))
      refine kl_appC w1.heap.size _ k ((List.range k).map (arrC a.s)) (cc) HO5.out g5 1 HR5.out (by omega) HB5.out.size rfl rfl rfl rfl rfl rfl ?_
      intro v6 w6 ho6 hg6
      have HB6 := Lib.hid (below_appendN HB5.out hg6 HO5.out HB5.out.size)
      have HO6 := Lib.hid ho6
      clear ho6 hg6 HO5 HB5 HR5
      rw [← HCC.out, ← arr_next, HK.out.1] at HO6
      repeat (first | refine kw_seq ?_ | refine kw_block ?_ | refine kw_region ?_ | refine kl_nil ?_ | refine kq_then ?_ | refine kq_block ?_ | refine kw_ift rfl ?_ | refine kw_iff rfl ?_ | refine kw_skip ?_ | refine kl_ung rfl rfl ?_ | refine kl_skipg rfl rfl rfl rfl ?_ | (first | refine kl_move rfl rfl (.inl rfl) rfl rfl ?_ | refine kl_move rfl rfl (.inr rfl) rfl rfl ?_ | refine kl_const rfl rfl (.inl rfl) rfl ?_ | refine kl_const rfl rfl (.inr rfl) rfl ?_) | ((first | refine kl_step rfl rfl rfl fun K hK => ?_ | refine kl_step0 rfl rfl rfl fun K hK => ?_); go_simp; (try go_bits); (first | refine hK _ _ ?_ | refine hK _ ?_); clear hK K))
      refine kq_again (N - nk) [1, 3, 4] (by have := HK.out; omega) ?_
      exact ⟨nk, v6, by have := HK.out; omega, rfl, HB6, HO6, rfl⟩
    have q7 : (a.s.typ.kind == 7) = false := beq_eq_false_iff_ne.2 d7
    have hP : Hid (baseP a.s = (fieldsP a.s.typ).mapIdx (fldCell a.s)) := by show _ = _; unfold baseP; rw [if_neg d1, if_neg d7]
    clear d1 d7
    repeat (first | refine kw_seq ?_ | refine kw_region ?_ | refine kl_nil ?_ | refine kq_then ?_ | refine kw_iff rfl ?_ | refine kl_load_mid 71 g1 _ _ _ rT.out Try.underlying71 rfl (by rw [typSize]; rfl) rfl rfl rfl rfl rfl ?_ | (first | refine kl_move rfl rfl (.inl rfl) rfl rfl ?_ | refine kl_move rfl rfl (.inr rfl) rfl rfl ?_ | refine kl_const rfl rfl (.inl rfl) rfl ?_ | refine kl_const rfl rfl (.inr rfl) rfl ?_) | ((first | refine kl_step rfl rfl rfl fun K hK => ?_ | refine kl_step0 rfl rfl rfl fun K hK => ?_); go_simp; (try go_bits); (first | refine hK _ _ ?_ | refine hK _ ?_); clear hK K))
    refine kl_call rfl rfl rfl Try.func75 rfl (by kernel_rfl) rfl ?_
    refine Calls.mono (fields7_any a.s.typ a.FA a.fn a.fc w1 HM1.out.typ (fun h8 => by have := HOK.out.some_ h8; have := HFL.out; omega) (by have := HOK.out.few; have := HFL.out; omega)) ?_
    rintro e w2 ⟨A2, n2, c2, rfl, hF2, hn2, hc2, hb2⟩
    refine ⟨_, rfl, ?_⟩
    have HF2 := Lib.hid hF2
    have HR2 : Hid (Below w2.heap.size w2 w2) := Below.refl _ _
    have HB2 := Lib.hid hb2
    have HFN : Hid (n2 ≤ 8) := by
      show _ ≤ _
      have h1 := hF2.len
      have h2 := HNB.out
      rw [hP.out] at h2
      have h3 := base_le HOK.out
      rw [hP.out] at h3
      simp at h3
      omega
    clear hF2 hn2 hc2 hb2 c1 q7
    repeat (first | refine kw_seq ?_ | refine kw_region ?_ | refine kl_nil ?_ | refine kq_then ?_ | refine kq_block ?_ | refine kw_ift rfl ?_ | refine kw_iff rfl ?_ | refine kw_skip ?_ | refine kl_ung rfl rfl ?_ | refine kl_skipg rfl rfl rfl rfl ?_ | (first | refine kl_move rfl rfl (.inl rfl) rfl rfl ?_ | refine kl_move rfl rfl (.inr rfl) rfl rfl ?_ | refine kl_const rfl rfl (.inl rfl) rfl ?_ | refine kl_const rfl rfl (.inr rfl) rfl ?_) | ((first | refine kl_step rfl rfl rfl fun K hK => ?_ | refine kl_step0 rfl rfl rfl fun K hK => ?_); go_simp; (try go_bits); (first | refine hK _ _ ?_ | refine hK _ ?_); clear hK K))
    refine KW.less [1, 3, 6, 7] ?_
    simp only [nrm, lk, Nat.reduceBEq, cond_true, cond_false]
    refine kw_block ?_
    refine kw_loop (fun mm L W => ∃ (k : Nat) (v : Value), k ≤ n2 ∧ mm = n2 - k ∧ Hid (Below w2.heap.size w2 W) ∧ Hid (W.ownsRow w2.heap.size 63 6 v k (flatR cellE (((fieldsP a.s.typ).mapIdx (fldCell a.s)).take k))) ∧ L = [(1, .pointer (some ⟨g1, 0, none⟩)), (3, v), (6, .slice A2 n2 c2), (7, .int .i64 (k : Int))]) ⟨0, .slice none 0 0, by omega, rfl, HR2, World.ownsRow_nil _ _ _ _, rfl⟩ ?_
    rintro mm L W ⟨k, v, hk, rfl, hb, ho, rfl⟩
    by_cases hlt : k < n2
    case neg =>
      obtain rfl : n2 = k := by omega
      have t1 : decide ((n2 : Int) < (n2 : Int)) = false := by simp
      have t1n : decide (n2 < n2) = false := by simp
      clear hlt
      repeat (first | refine kw_seq ?_ | refine kw_block ?_ | refine kw_region ?_ | refine kl_nil ?_ | refine kq_then ?_ | refine kq_block ?_ | refine kw_ift rfl ?_ | refine kw_iff rfl ?_ | refine kw_skip ?_ | refine kw_exit ?_ | refine kq_then_exit ?_ | refine kq_block_here rfl ?_ | refine kq_again_exit ?_ | refine kl_ung rfl rfl ?_ | refine kl_skipg rfl rfl rfl rfl ?_ | (first | refine kl_move rfl rfl (.inl rfl) rfl rfl ?_ | refine kl_move rfl rfl (.inr rfl) rfl rfl ?_ | refine kl_const rfl rfl (.inl rfl) rfl ?_ | refine kl_const rfl rfl (.inr rfl) rfl ?_) | ((first | refine kl_step rfl rfl rfl fun K hK => ?_ | refine kl_step0 rfl rfl rfl fun K hK => ?_); go_simp; (try go_bits); (first | refine hK _ _ ?_ | refine hK _ ?_); clear hK K))
      refine kq_cut [1, 3] ?_
      refine ⟨v, below_then HB2.out hb.out HB2.out.size, ?_, rfl⟩
      show World.ownsRow _ _ _ _ _ _ _
      have h1 := ho.out
      have h2 := HNB.out
      have h4 := HF2.out.len
      rw [hP.out] at h2 ⊢
      have h3 : n2 = nb := by simp at h2; omega
      rw [List.take_of_length_le (by simp; omega)] at h1
      rw [← h3]; exact own_low2 h1 HB2.out.size
    have t1 : decide ((k : Int) < (n2 : Int)) = true := by rw [decide_eq_true_eq]; omega
    have t1n : decide (k < n2) = true := decide_eq_true hlt
    have u0 : (0 : Int) ≤ k := by omega
    have u1 : (k : Int) < n2 := by omega
    obtain ⟨gF, oF, f, rfl, hr, _, hx⟩ := HF2.out.next hlt
    have HRF : Hid (∀ W, Below w2.heap.size w2 W → W.rangeAt gF (oF + k * 2) (fldC f)) := fun W h j u hu => Keeps.of_below h _ _ (hr j u hu)
    have HFX := Lib.hid (fld_next a.s _ k f hx.out)
    have HX := hx
    obtain ⟨nk, hnk⟩ : ∃ nk, k + 1 = nk := ⟨_, rfl⟩
    have k1 : (k : Int) + 1 = (nk : Int) := by omega
    have k2 : (0 : Int) ≤ nk := by omega
    have k3 : (nk : Int) ≤ 1048576 := by have := HFN.out; omega
    have hk8 : k < 10 := by have := HFN.out; omega
    rw [hnk] at HFX
    have HK := Lib.hid (And.intro hnk hlt)
    clear hlt hk hnk hr hx
    repeat (first | refine kw_seq ?_ | refine kw_block ?_ | refine kw_region ?_ | refine kl_nil ?_ | refine kq_then ?_ | refine kq_block ?_ | refine kw_ift rfl ?_ | refine kw_iff rfl ?_ | refine kw_skip ?_ | refine kl_ung rfl rfl ?_ | refine kl_skipg rfl rfl rfl rfl ?_ | (first | refine kl_move rfl rfl (.inl rfl) rfl rfl ?_ | refine kl_move rfl rfl (.inr rfl) rfl rfl ?_ | refine kl_const rfl rfl (.inl rfl) rfl ?_ | refine kl_const rfl rfl (.inr rfl) rfl ?_) | ((first | refine kl_step rfl rfl rfl fun K hK => ?_ | refine kl_step0 rfl rfl rfl fun K hK => ?_); go_simp; (try go_bits); (first | refine hK _ _ ?_ | refine hK _ ?_); clear hK K))
    have hR := below_then hb.out ((Below.refl _ W).drew) hb.out.size
    have HO4 := Lib.hid (own_below ho.out ((Below.refl _ W).drew))
    have r0 : ∀ W, Below w2.heap.size w2 W → W.cell? ⟨g1, 0, none⟩ = some (.string ⟨a.s.name.toArray⟩) := fun W h => C0.out W (below_then HB2.out h HB2.out.size)
    have r2 : ∀ W, Below w2.heap.size w2 W → W.cell? ⟨gF, oF + k * 2, none⟩ = some (.string ⟨f.name.toArray⟩) := fun W h => HRF.out W h 0 _ rfl
    have r3 : ∀ W, Below w2.heap.size w2 W → W.cell? ⟨gF, oF + k * 2 + 1, none⟩ = some (.int .i64 f.kind) := fun W h => HRF.out W h 1 _ rfl
    obtain ⟨N1, hN1⟩ : ∃ N1, a.s.name ++ [46] = N1 := ⟨_, rfl⟩
    obtain ⟨N3, hN3⟩ : ∃ N3, N1 ++ f.name = N3 := ⟨_, rfl⟩
    have hfl : f.name.length ≤ 20 := (fieldsP_ok HOK.out (List.mem_of_getElem? HX.out)).2.2
    have z1 : a.s.name.length + [(46 : UInt8)].length ≤ 1000000 := by have := HNM.out; simp; omega
    have z2 : N1.length + f.name.length ≤ 1000000 := by have := HNM.out; rw [← hN1]; simp; omega
    have HZ1 := Lib.hid (And.intro hN1 z1)
    have HZ2 := Lib.hid (And.intro hN3 z2)
    have HAC : Hid (fldCell a.s k f = ⟨N3, f.kind, false, 0, 0, if k = 0 ∧ a.s.typ.kind ≠ 8 then a.s.typ.kind else 0⟩) := by show _ = _; rw [← hN3, ← hN1]; rfl
    clear hN1 hN3 hfl z1 z2 t1 t1n ho HX
    refine kw_region_f (Below w2.heap.size w2) [true, true, true, true, true, true, true, true, true, true, true, true, true, true, true, false, false] (by kernel_rfl) (by kernel_rfl) hR ?_
    clear hb
    generalize W.drew = w4 at *
    repeat (first | refine kf_nil ?_ | refine kf_ung rfl rfl ?_ | refine kf_skipg rfl rfl rfl rfl ?_ | (first | refine kf_move rfl rfl (.inl rfl) rfl rfl ?_ | refine kf_move rfl rfl (.inr rfl) rfl rfl ?_ | refine kf_const rfl rfl (.inl rfl) rfl ?_ | refine kf_const rfl rfl (.inr rfl) rfl ?_) | (refine kf_val rfl rfl rfl ?_; apply Exists.intro; refine And.intro (fun W hW N hN => ?_) ?_; · (go_simp; (try go_bits); exact hN)))
    refine kf_cat _ [46] HZ1.out.1 HZ1.out.2 rfl rfl rfl rfl rfl rfl rfl rfl ?_
    repeat (first | refine kf_nil ?_ | refine kf_ung rfl rfl ?_ | refine kf_skipg rfl rfl rfl rfl ?_ | (first | refine kf_move rfl rfl (.inl rfl) rfl rfl ?_ | refine kf_move rfl rfl (.inr rfl) rfl rfl ?_ | refine kf_const rfl rfl (.inl rfl) rfl ?_ | refine kf_const rfl rfl (.inr rfl) rfl ?_) | (refine kf_val rfl rfl rfl ?_; apply Exists.intro; refine And.intro (fun W hW N hN => ?_) ?_; · (go_simp; (try go_bits); exact hN)))
    refine kf_cat _ _ HZ2.out.1 HZ2.out.2 rfl rfl rfl rfl rfl rfl rfl rfl ?_
    repeat (first | refine kf_nil ?_ | refine kf_ung rfl rfl ?_ | refine kf_skipg rfl rfl rfl rfl ?_ | (first | refine kf_move rfl rfl (.inl rfl) rfl rfl ?_ | refine kf_move rfl rfl (.inr rfl) rfl rfl ?_ | refine kf_const rfl rfl (.inl rfl) rfl ?_ | refine kf_const rfl rfl (.inr rfl) rfl ?_) | (refine kf_val rfl rfl rfl ?_; apply Exists.intro; refine And.intro (fun W hW N hN => ?_) ?_; · (go_simp; (try go_bits); exact hN)))
    refine kf_ch ?_
    refine kl_zeroL (Lay.start w4) cellZero rfl rfl rfl rfl ?_
    intro g6 w6 hg6 hb6 hL6
    have hR6 := below_then hR hb6 hR.size
    clear hg6 hb6
    refine kl_nil ?_
    refine kq_f hR6 ?_
    repeat (first | refine kf_nil ?_ | refine kf_ung rfl rfl ?_ | refine kf_skipg rfl rfl rfl rfl ?_ | (first | refine kf_move rfl rfl (.inl rfl) rfl rfl ?_ | refine kf_move rfl rfl (.inr rfl) rfl rfl ?_ | refine kf_const rfl rfl (.inl rfl) rfl ?_ | refine kf_const rfl rfl (.inr rfl) rfl ?_) | (refine kf_val rfl rfl rfl ?_; apply Exists.intro; refine And.intro (fun W hW N hN => ?_) ?_; · (go_simp; (try go_bits); exact hN)))
    refine kf_ch ?_
    refine kl_putL (cells := (cellC ⟨N3, f.kind, false, 0, 0, 0⟩).toArray) hL6 0 rfl (cellInfo _) rfl (cellC_agg _) rfl rfl rfl rfl rfl (fun hL7 => ?_)
    generalize w6.setRow g6 (cellC ⟨N3, f.kind, false, 0, 0, 0⟩).toArray = w7 at hL7 ⊢
    have hL7 : Lay w4 w7 [(g6, (cellC ⟨N3, f.kind, false, 0, 0, 0⟩).toArray, 63)] := hL7
    have hR7 := below_then hR hL7.below hR.size
    have HR4 := Lib.hid hR
    clear hR hL6 hR6
    refine kl_nil ?_
    refine kq_f hR7 ?_
    repeat (first | refine kf_nil ?_ | refine kf_ung rfl rfl ?_ | refine kf_skipg rfl rfl rfl rfl ?_ | (first | refine kf_move rfl rfl (.inl rfl) rfl rfl ?_ | refine kf_move rfl rfl (.inr rfl) rfl rfl ?_ | refine kf_const rfl rfl (.inl rfl) rfl ?_ | refine kf_const rfl rfl (.inr rfl) rfl ?_) | (refine kf_val rfl rfl rfl ?_; apply Exists.intro; refine And.intro (fun W hW N hN => ?_) ?_; · (go_simp; (try go_bits); exact hN)))
    clear r0 r2 r3
    have HB7 := Lib.hid hR7
    clear hR7
    have hcut : ∀ cc : CellV, fldCell a.s k f = cc → ∀ (w8 : World), Lay w4 w8 [(g6, (cellC cc).toArray, 63)] → Hid (Lay w4 w8 [(g6, (cellC (fldCell a.s k f)).toArray, 63)]) := fun cc e w8 h => by show Lay _ _ _; rw [e]; exact h
    have HCUT := Lib.hid hcut
    clear hcut
    obtain ⟨qb, hqb⟩ : ∃ qb, ((k : Int) == 0) = qb := ⟨_, rfl⟩
    obtain ⟨q8, hq8⟩ : ∃ q8, (a.s.typ.kind != 8) = q8 := ⟨_, rfl⟩
    have hif : ∀ x y : Int, qb = true → q8 = true → (if k = 0 ∧ a.s.typ.kind ≠ 8 then x else y) = x := fun x y h1 h2 => if_pos ⟨by rw [h1] at hqb; have := beq_iff_eq.1 hqb; omega, by rw [h2] at hq8; simpa using hq8⟩
    have hif2 : ∀ x y : Int, (qb = false ∨ q8 = false) → (if k = 0 ∧ a.s.typ.kind ≠ 8 then x else y) = y := fun x y h => if_neg fun ⟨h1, h2⟩ => by
      rcases h with h | h
      · rw [h] at hqb; subst h1; simp at hqb
      · rw [h] at hq8; simp at hq8; exact h2 hq8
    have HIF := Lib.hid hif
    have HIF2 := Lib.hid hif2
    have c1 := C1.out w7 (below_then HB2.out HB7.out HB2.out.size)
    clear hif hif2
    cases qb
    case false =>
      rw [HIF2.out _ _ (.inl rfl)] at HAC
      have hL8 := HCUT.out _ HAC.out _ hL7
      clear hL7 HB7 HAC HCUT HIF HIF2
      have HQ := Lib.hid hq8
      clear hq8
      generalize w7 = W8 at hL8 c1 ⊢
      repeat (first | refine kl_nil ?_ | refine kq_then ?_ | refine kw_seq ?_ | refine kw_region ?_ | refine kw_ift rfl ?_ | refine kw_iff rfl ?_ | refine kw_skip ?_ | refine kl_ung rfl rfl ?_ | refine kl_skipg rfl rfl rfl rfl ?_ | (first | refine kl_move rfl rfl (.inl rfl) rfl rfl ?_ | refine kl_move rfl rfl (.inr rfl) rfl rfl ?_ | refine kl_const rfl rfl (.inl rfl) rfl ?_ | refine kl_const rfl rfl (.inr rfl) rfl ?_) | ((first | refine kl_step rfl rfl rfl fun K hK => ?_ | refine kl_step0 rfl rfl rfl fun K hK => ?_); go_simp; (try go_bits); (first | refine hK _ _ ?_ | refine hK _ ?_); clear hK K))
      clear hqb c1
      have H8O := Lib.hid (own_below HO4.out hL8.out.below)
      have H8B := Lib.hid (below_then HR4.out hL8.out.below HR4.out.size)
      repeat (first | refine kl_getL hL8.out 0 rfl Try.underlying63 rfl (cellInfo _) rfl rfl rfl rfl rfl ?_ | (first | refine kl_move rfl rfl (.inl rfl) rfl rfl ?_ | refine kl_move rfl rfl (.inr rfl) rfl rfl ?_ | refine kl_const rfl rfl (.inl rfl) rfl ?_ | refine kl_const rfl rfl (.inr rfl) rfl ?_))
      clear hL8 HO4 HR4
      obtain ⟨cc, hcc⟩ : ∃ cc, fldCell a.s k f = cc := ⟨_, rfl⟩
      rw [hcc] at HFX
      rw [hcc]
      clear hcc
      refine kl_buildSlice_row (z := cellC cellZ) (cs := cellC (cc)) Try.underlying58 cellZero cellSize rfl (by omega) (by omega) rfl rfl rfl rfl rfl ?_
      have hr5 := rangeAt_new W8 (cellC (cc)).toArray 63 W8.heap.size rfl
      have hb5 : Below W8.heap.size W8 (W8.alloc (.cells (cellC (cc)).toArray 63)) := (Below.refl _ _).alloc (Nat.le_refl _) _
      have HO5 := Lib.hid (own_below H8O.out hb5)
      have HB5 := Lib.hid (below_then H8B.out hb5 H8B.out.size)
      have HR5 : Hid ((W8.alloc (.cells (cellC (cc)).toArray 63)).rangeAt W8.heap.size 0 (cellC (cc))) := hr5
      clear hr5 hb5
      generalize W8.alloc (.cells (cellC (cc)).toArray 63) = w5 at HO5 HB5 HR5 ⊢
      generalize W8.heap.size = g5 at HR5 ⊢
      repeat (first | (first | refine kl_move rfl rfl (.inl rfl) rfl rfl ?_ | refine kl_move rfl rfl (.inr rfl) rfl rfl ?_ | refine kl_const rfl rfl (.inl rfl) rfl ?_ | refine kl_const rfl rfl (.inr rfl) rfl ?_) | ((first | refine kl_step rfl rfl rfl fun K hK => ?_ | refine kl_step0 rfl rfl rfl fun K hK => ?_); go_simp; (try go_bits); (first | refine hK _ _ ?_ | refine hK _ ?_); clear hK K))
      refine kl_appC w2.heap.size _ k (((fieldsP a.s.typ).mapIdx (fldCell a.s)).take k) (cc) HO5.out g5 1 HR5.out (by omega) HB5.out.size rfl rfl rfl rfl rfl rfl ?_
      intro v6 w6 ho6 hg6
      have HB6 := Lib.hid (below_appendN HB5.out hg6 HO5.out HB5.out.size)
      have HO6 := Lib.hid ho6
      clear ho6 hg6 HO5 HB5 HR5
      rw [← HFX.out] at HO6
      repeat (first | refine kw_seq ?_ | refine kw_block ?_ | refine kw_region ?_ | refine kl_nil ?_ | refine kq_then ?_ | refine kq_block ?_ | refine kw_ift rfl ?_ | refine kw_iff rfl ?_ | refine kw_skip ?_ | refine kl_ung rfl rfl ?_ | refine kl_skipg rfl rfl rfl rfl ?_ | (first | refine kl_move rfl rfl (.inl rfl) rfl rfl ?_ | refine kl_move rfl rfl (.inr rfl) rfl rfl ?_ | refine kl_const rfl rfl (.inl rfl) rfl ?_ | refine kl_const rfl rfl (.inr rfl) rfl ?_) | ((first | refine kl_step rfl rfl rfl fun K hK => ?_ | refine kl_step0 rfl rfl rfl fun K hK => ?_); go_simp; (try go_bits); (first | refine hK _ _ ?_ | refine hK _ ?_); clear hK K))
      refine kq_again (n2 - nk) [1, 3, 6, 7] (by have := HK.out; omega) ?_
      exact ⟨nk, v6, by have := HK.out; omega, rfl, HB6, by rw [HK.out.1] at HO6; exact HO6, rfl⟩
    cases q8
    case false =>
      rw [HIF2.out _ _ (.inr rfl)] at HAC
      have hL8 := HCUT.out _ HAC.out _ hL7
      clear hL7 HB7 HAC HCUT HIF HIF2
      generalize w7 = W8 at hL8 c1 ⊢
      repeat (first | refine kl_nil ?_ | refine kq_then ?_ | refine kw_seq ?_ | refine kw_region ?_ | refine kw_ift rfl ?_ | refine kw_iff rfl ?_ | refine kw_skip ?_ | refine kl_ung rfl rfl ?_ | refine kl_skipg rfl rfl rfl rfl ?_ | (first | refine kl_move rfl rfl (.inl rfl) rfl rfl ?_ | refine kl_move rfl rfl (.inr rfl) rfl rfl ?_ | refine kl_const rfl rfl (.inl rfl) rfl ?_ | refine kl_const rfl rfl (.inr rfl) rfl ?_) | ((first | refine kl_step rfl rfl rfl fun K hK => ?_ | refine kl_step0 rfl rfl rfl fun K hK => ?_); go_simp; (try go_bits); (first | refine hK _ _ ?_ | refine hK _ ?_); clear hK K))
      clear hqb hq8 c1
      have H8O := Lib.hid (own_below HO4.out hL8.out.below)
      have H8B := Lib.hid (below_then HR4.out hL8.out.below HR4.out.size)
      repeat (first | refine kl_getL hL8.out 0 rfl Try.underlying63 rfl (cellInfo _) rfl rfl rfl rfl rfl ?_ | (first | refine kl_move rfl rfl (.inl rfl) rfl rfl ?_ | refine kl_move rfl rfl (.inr rfl) rfl rfl ?_ | refine kl_const rfl rfl (.inl rfl) rfl ?_ | refine kl_const rfl rfl (.inr rfl) rfl ?_))
      clear hL8 HO4 HR4
      obtain ⟨cc, hcc⟩ : ∃ cc, fldCell a.s k f = cc := ⟨_, rfl⟩
      rw [hcc] at HFX
      rw [hcc]
      clear hcc
      refine kl_buildSlice_row (z := cellC cellZ) (cs := cellC (cc)) Try.underlying58 cellZero cellSize rfl (by omega) (by omega) rfl rfl rfl rfl rfl ?_
      have hr5 := rangeAt_new W8 (cellC (cc)).toArray 63 W8.heap.size rfl
      have hb5 : Below W8.heap.size W8 (W8.alloc (.cells (cellC (cc)).toArray 63)) := (Below.refl _ _).alloc (Nat.le_refl _) _
      have HO5 := Lib.hid (own_below H8O.out hb5)
      have HB5 := Lib.hid (below_then H8B.out hb5 H8B.out.size)
      have HR5 : Hid ((W8.alloc (.cells (cellC (cc)).toArray 63)).rangeAt W8.heap.size 0 (cellC (cc))) := hr5
      clear hr5 hb5
      generalize W8.alloc (.cells (cellC (cc)).toArray 63) = w5 at HO5 HB5 HR5 ⊢
      generalize W8.heap.size = g5 at HR5 ⊢
      repeat (first | (first | refine kl_move rfl rfl (.inl rfl) rfl rfl ?_ | refine kl_move rfl rfl (.inr rfl) rfl rfl ?_ | refine kl_const rfl rfl (.inl rfl) rfl ?_ | refine kl_const rfl rfl (.inr rfl) rfl ?_) | ((first | refine kl_step rfl rfl rfl fun K hK => ?_ | refine kl_step0 rfl rfl rfl fun K hK => ?_); go_simp; (try go_bits); (first | refine hK _ _ ?_ | refine hK _ ?_); clear hK K))
      refine kl_appC w2.heap.size _ k (((fieldsP a.s.typ).mapIdx (fldCell a.s)).take k) (cc) HO5.out g5 1 HR5.out (by omega) HB5.out.size rfl rfl rfl rfl rfl rfl ?_
      intro v6 w6 ho6 hg6
      have HB6 := Lib.hid (below_appendN HB5.out hg6 HO5.out HB5.out.size)
      have HO6 := Lib.hid ho6
      clear ho6 hg6 HO5 HB5 HR5
      rw [← HFX.out] at HO6
      repeat (first | refine kw_seq ?_ | refine kw_block ?_ | refine kw_region ?_ | refine kl_nil ?_ | refine kq_then ?_ | refine kq_block ?_ | refine kw_ift rfl ?_ | refine kw_iff rfl ?_ | refine kw_skip ?_ | refine kl_ung rfl rfl ?_ | refine kl_skipg rfl rfl rfl rfl ?_ | (first | refine kl_move rfl rfl (.inl rfl) rfl rfl ?_ | refine kl_move rfl rfl (.inr rfl) rfl rfl ?_ | refine kl_const rfl rfl (.inl rfl) rfl ?_ | refine kl_const rfl rfl (.inr rfl) rfl ?_) | ((first | refine kl_step rfl rfl rfl fun K hK => ?_ | refine kl_step0 rfl rfl rfl fun K hK => ?_); go_simp; (try go_bits); (first | refine hK _ _ ?_ | refine hK _ ?_); clear hK K))
      refine kq_again (n2 - nk) [1, 3, 6, 7] (by have := HK.out; omega) ?_
      exact ⟨nk, v6, by have := HK.out; omega, rfl, HB6, by rw [HK.out.1] at HO6; exact HO6, rfl⟩
    rw [HIF.out _ _ rfl rfl] at HAC
    have c4 : w7.cell? ⟨g6, 5, none⟩ = some (.int .i64 0) := hL7.get (j := 5) 0 rfl rfl
    have f4 := hL7.free 0 rfl 5
    have hL9 := hL7.cell (cs := cellC ⟨N3, f.kind, false, 0, 0, 0⟩) 0 rfl 5 (.int .i64 a.s.typ.kind)
    have hL8 := HCUT.out _ HAC.out _ hL9
    clear hL7 HB7 HAC HCUT HIF HIF2 hL9
    repeat (first | refine kl_nil ?_ | refine kq_then ?_ | refine kw_seq ?_ | refine kw_region ?_ | refine kw_ift rfl ?_ | refine kw_iff rfl ?_ | refine kw_skip ?_ | refine kl_ung rfl rfl ?_ | refine kl_skipg rfl rfl rfl rfl ?_ | (first | refine kl_move rfl rfl (.inl rfl) rfl rfl ?_ | refine kl_move rfl rfl (.inr rfl) rfl rfl ?_ | refine kl_const rfl rfl (.inl rfl) rfl ?_ | refine kl_const rfl rfl (.inr rfl) rfl ?_) | ((first | refine kl_step rfl rfl rfl fun K hK => ?_ | refine kl_step0 rfl rfl rfl fun K hK => ?_); go_simp; (try go_bits); (first | refine hK _ _ ?_ | refine hK _ ?_); clear hK K))
    clear hqb hq8 c1 c4 f4
    generalize w7.setCell ⟨g6, 5, none⟩ (.int .i64 a.s.typ.kind) = W8 at hL8 ⊢
    have H8O := Lib.hid (own_below HO4.out hL8.out.below)
    have H8B := Lib.hid (below_then HR4.out hL8.out.below HR4.out.size)
    repeat (first | refine kl_getL hL8.out 0 rfl Try.underlying63 rfl (cellInfo _) rfl rfl rfl rfl rfl ?_ | (first | refine kl_move rfl rfl (.inl rfl) rfl rfl ?_ | refine kl_move rfl rfl (.inr rfl) rfl rfl ?_ | refine kl_const rfl rfl (.inl rfl) rfl ?_ | refine kl_const rfl rfl (.inr rfl) rfl ?_))
    clear hL8 HO4 HR4
    obtain ⟨cc, hcc⟩ : ∃ cc, fldCell a.s k f = cc := ⟨_, rfl⟩
    rw [hcc] at HFX
    rw [hcc]
    clear hcc
    refine kl_buildSlice_row (z := cellC cellZ) (cs := cellC (cc)) Try.underlying58 cellZero cellSize rfl (by omega) (by omega) rfl rfl rfl rfl rfl ?_
    have hr5 := rangeAt_new W8 (cellC (cc)).toArray 63 W8.heap.size rfl
    have hb5 : Below W8.heap.size W8 (W8.alloc (.cells (cellC (cc)).toArray 63)) := (Below.refl _ _).alloc (Nat.le_refl _) _
    have HO5 := Lib.hid (own_below H8O.out hb5)
    have HB5 := Lib.hid (below_then H8B.out hb5 H8B.out.size)
    have HR5 : Hid ((W8.alloc (.cells (cellC (cc)).toArray 63)).rangeAt W8.heap.size 0 (cellC (cc))) := hr5
    clear hr5 hb5
    generalize W8.alloc (.cells (cellC (cc)).toArray 63) = w5 at HO5 HB5 HR5 ⊢
    generalize W8.heap.size = g5 at HR5 ⊢
    repeat (first | (first | refine kl_move rfl rfl (.inl rfl) rfl rfl ?_ | refine kl_move rfl rfl (.inr rfl) rfl rfl ?_ | refine kl_const rfl rfl (.inl rfl) rfl ?_ | refine kl_const rfl rfl (.inr rfl) rfl ?_) | ((first | refine kl_step rfl rfl rfl fun K hK => ?_ | refine kl_step0 rfl rfl rfl fun K hK => ?_); go_simp; (try go_bits); (first | refine hK _ _ ?_ | refine hK _ ?_); clear hK K))
    refine kl_appC w2.heap.size _ k (((fieldsP a.s.typ).mapIdx (fldCell a.s)).take k) (cc) HO5.out g5 1 HR5.out (by omega) HB5.out.size rfl rfl rfl rfl rfl rfl ?_
    intro v6 w6 ho6 hg6
    have HB6 := Lib.hid (below_appendN HB5.out hg6 HO5.out HB5.out.size)
    have HO6 := Lib.hid ho6
    clear ho6 hg6 HO5 HB5 HR5
    rw [← HFX.out] at HO6
    repeat (first | refine kw_seq ?_ | refine kw_block ?_ | refine kw_region ?_ | refine kl_nil ?_ | refine kq_then ?_ | refine kq_block ?_ | refine kw_ift rfl ?_ | refine kw_iff rfl ?_ | refine kw_skip ?_ | refine kl_ung rfl rfl ?_ | refine kl_skipg rfl rfl rfl rfl ?_ | (first | refine kl_move rfl rfl (.inl rfl) rfl rfl ?_ | refine kl_move rfl rfl (.inr rfl) rfl rfl ?_ | refine kl_const rfl rfl (.inl rfl) rfl ?_ | refine kl_const rfl rfl (.inr rfl) rfl ?_) | ((first | refine kl_step rfl rfl rfl fun K hK => ?_ | refine kl_step0 rfl rfl rfl fun K hK => ?_); go_simp; (try go_bits); (first | refine hK _ _ ?_ | refine hK _ ?_); clear hK K))
    refine kq_again (n2 - nk) [1, 3, 6, 7] (by have := HK.out; omega) ?_
    exact ⟨nk, v6, by have := HK.out; omega, rfl, HB6, by rw [HK.out.1] at HO6; exact HO6, rfl⟩
  rintro L W ⟨v0, hb0, ho0, rfl⟩
  have hpos : 0 < nb := by have := base_pos HOK.out; rw [HNB.out] at this; exact this
  have hle : nb ≤ 8 := by have := base_le HOK.out; rw [HNB.out] at this; exact this
  obtain ⟨g3, cc, rfl, _, _, hcc1, hcc2⟩ := own_formC ho0.out hpos
  have HLE := Lib.hid (And.intro hle (And.intro hcc1 hcc2))
  have ho0' : Hid (W.ownsRow w1.heap.size 63 6 (.slice (some ⟨g3, 0, none⟩) nb cc) nb (flatR cellE ((ofP a.s).take 0 ++ (baseP a.s).drop 0))) := by simpa using ho0
  clear ho0 hpos hle hcc1 hcc2
  repeat (first | refine kw_seq ?_ | refine kw_region ?_ | refine kl_nil ?_ | refine kq_then ?_ | refine kq_block ?_ | refine kw_ift rfl ?_ | refine kw_iff rfl ?_ | refine kw_skip ?_ | refine kl_ung rfl rfl ?_ | refine kl_skipg rfl rfl rfl rfl ?_ | (first | refine kl_move rfl rfl (.inl rfl) rfl rfl ?_ | refine kl_move rfl rfl (.inr rfl) rfl rfl ?_ | refine kl_const rfl rfl (.inl rfl) rfl ?_ | refine kl_const rfl rfl (.inr rfl) rfl ?_) | ((first | refine kl_step rfl rfl rfl fun K hK => ?_ | refine kl_step0 rfl rfl rfl fun K hK => ?_); go_simp; (try go_bits); (first | refine hK _ _ ?_ | refine hK _ ?_); clear hK K))
  refine KW.less [1, 3, 9] ?_
  simp only [nrm, lk, Nat.reduceBEq, cond_true, cond_false]
  refine kw_block ?_
  refine kw_loop (fun mm L W => ∃ (k : Nat), k ≤ nb ∧ mm = nb - k ∧ Hid (Below w1.heap.size w1 W) ∧ Hid (W.ownsRow w1.heap.size 63 6 (.slice (some ⟨g3, 0, none⟩) nb cc) nb (flatR cellE ((ofP a.s).take k ++ (baseP a.s).drop k))) ∧ L = [(1, .pointer (some ⟨g1, 0, none⟩)), (3, .slice (some ⟨g3, 0, none⟩) nb cc), (9, .int .i64 (k : Int))]) ⟨0, by omega, rfl, hb0, ho0', rfl⟩ ?_
  clear hb0 ho0'
  rintro mm L W ⟨k, hk, rfl, hb, ho, rfl⟩
  by_cases hlt : k < nb
  case neg =>
    obtain rfl : k = nb := by omega
    have t1 : decide ((k : Int) < (k : Int)) = false := by simp
    have t1n : decide (k < k) = false := by simp
    have hol : (ofP a.s).length = k := by unfold ofP; simp [HNB.out]
    rw [List.take_of_length_le (by rw [hol]; exact Nat.le_refl _), List.drop_of_length_le (by rw [HNB.out]; exact Nat.le_refl _), List.append_nil] at ho
    obtain ⟨A9, c9, e9, hr9, hn9, hc9, _⟩ := own_rw (E := cellE) ho.out hol
    injection e9 with e91 e92 e93
    subst e91; subst e93
    clear hlt hol
    repeat (first | refine kw_seq ?_ | refine kw_block ?_ | refine kw_region ?_ | refine kl_nil ?_ | refine kq_then ?_ | refine kq_block ?_ | refine kw_ift rfl ?_ | refine kw_iff rfl ?_ | refine kw_skip ?_ | refine kw_exit ?_ | refine kq_then_exit ?_ | refine kq_block_here rfl ?_ | refine kq_again_exit ?_ | refine kl_ung rfl rfl ?_ | refine kl_skipg rfl rfl rfl rfl ?_ | (first | refine kl_move rfl rfl (.inl rfl) rfl rfl ?_ | refine kl_move rfl rfl (.inr rfl) rfl rfl ?_ | refine kl_const rfl rfl (.inl rfl) rfl ?_ | refine kl_const rfl rfl (.inr rfl) rfl ?_) | ((first | refine kl_step rfl rfl rfl fun K hK => ?_ | refine kl_step0 rfl rfl rfl fun K hK => ?_); go_simp; (try go_bits); (first | refine hK _ _ ?_ | refine hK _ ?_); clear hK K))
    repeat (first | refine kw_seq ?_ | refine kw_block ?_ | refine kw_skip ?_ | refine kw_region ?_ | refine kl_nil ?_ | refine kq_then ?_ | refine kq_block ?_ | refine kw_exit ?_ | refine kq_then_exit ?_ | refine kq_block_here rfl ?_ | refine kq_block_far rfl ?_ | refine kq_again_exit ?_ | refine kw_ret ?_ | refine kq_then_ret ?_ | refine kq_block_ret ?_ | refine kq_again_ret ?_ | refine kw_ift rfl ?_ | refine kw_iff rfl ?_ | refine kl_ung rfl rfl ?_ | refine kl_skipg rfl rfl rfl rfl ?_ | refine kl_skipg0 rfl rfl rfl ?_ | (first | refine kl_move rfl rfl (.inl rfl) rfl rfl ?_ | refine kl_move rfl rfl (.inr rfl) rfl rfl ?_ | refine kl_const rfl rfl (.inl rfl) rfl ?_ | refine kl_const rfl rfl (.inr rfl) rfl ?_) | ((first | refine kl_step rfl rfl rfl fun K hK => ?_ | refine kl_step0 rfl rfl rfl fun K hK => ?_); go_simp; (try go_bits); (first | refine hK _ _ ?_ | refine hK _ ?_); clear hK K))
    exact kq_ret1 rfl rfl ⟨_, _, _, rfl, hr9, hn9, hc9, below_then HB1.out hb.out HB1.out.size⟩
  have t1 : decide ((k : Int) < (nb : Int)) = true := by rw [decide_eq_true_eq]; omega
  have t1n : decide (k < nb) = true := decide_eq_true hlt
  have u0 : (0 : Int) ≤ k := by omega
  have u1 : (k : Int) < nb := by omega
  have hkb : k < (baseP a.s).length := by rw [HNB.out]; exact hlt
  obtain ⟨p, hp⟩ : ∃ p, (baseP a.s)[k]? = some p := ⟨_, List.getElem?_eq_getElem hkb⟩
  have hol : (ofP a.s).length = nb := by unfold ofP; simp [HNB.out]
  have hpre : ((ofP a.s).take k).length = k := by rw [List.length_take, hol]; omega
  obtain ⟨nk, hnk⟩ : ∃ nk, k + 1 = nk := ⟨_, rfl⟩
  have hnx := of_take_next a.s k p hp
  have hdr : (baseP a.s).drop k = p :: (baseP a.s).drop (k + 1) := drop_at _ _ _ hp
  rw [hnk] at hnx hdr
  rw [hdr] at ho
  obtain ⟨post, hpost⟩ : ∃ post, (baseP a.s).drop nk = post := ⟨_, rfl⟩
  obtain ⟨pre, hpr⟩ : ∃ pre, (ofP a.s).take k = pre := ⟨_, rfl⟩
  rw [hpost, hpr] at ho
  rw [hpr] at hpre
  have HNX : Hid (∀ q, fillP a.s k p = q → ∀ W3 : World, W3.ownsRow w1.heap.size 63 6 (.slice (some ⟨g3, 0, none⟩) nb cc) nb (flatR cellE (pre ++ q :: post)) → Hid (W3.ownsRow w1.heap.size 63 6 (.slice (some ⟨g3, 0, none⟩) nb cc) nb (flatR cellE ((ofP a.s).take nk ++ (baseP a.s).drop nk)))) := fun q hq W3 h => by
    show World.ownsRow _ _ _ _ _ _ _
    rw [hnx, hq, hpr, hpost]; exact h
  obtain ⟨p1, hp1⟩ : ∃ p1 : CellV, p1 = { p with retain := a.s.retain } := ⟨_, rfl⟩
  have hfs1 := flat_set cellE pre post p p1 k 2 (.bool a.s.retain) hpre (by decide) (by rw [hp1]; rfl)
  have hst1 := ho.out.stored (k * 6 + 2) (.bool a.s.retain)
  rw [show cellE.size = 6 from rfl] at hfs1
  rw [hfs1] at hst1
  have hcl : W.cell? ⟨g3, k * 6 + 2, none⟩ = some (.bool p.retain) := by
    have := own_mid ho.out k (cellC p) (fun j u hu => flatR_at cellE (pre ++ p :: post) k p (by rw [List.getElem?_append_right (by omega), hpre, Nat.sub_self]; rfl) j u hu)
    exact this 2 _ rfl
  have hfr : W.frozen? ⟨g3, k * 6 + 2, none⟩ = false := own_free2 ho.out
  have c5 := C5.out W hb.out
  have k1 : (k : Int) + 1 = (nk : Int) := by omega
  have k2 : (0 : Int) ≤ nk := by omega
  have k3 : (nk : Int) ≤ 1048576 := by have := HLE.out; omega
  have HK := Lib.hid (And.intro hnk hlt)
  have HST1 := Lib.hid hst1
  have HPRE := Lib.hid hpre
  have HP1 := Lib.hid hp1
  obtain ⟨qb, hqb⟩ : ∃ qb, decide ((k : Int) < (a.im : Int)) = qb := ⟨_, rfl⟩
  have hqn : decide (k < a.im) = qb := by rw [← hqb]; simp
  have HQB := Lib.hid hqn
  have HB2 : Hid (Below w1.heap.size w1 (W.setCell ⟨g3, k * 6 + 2, none⟩ (.bool a.s.retain))) := by
    show Below _ _ _
    have hge := (ho.out.lt g3 rfl).1
    exact below_grown hb.out hst1.2 hb.out.size hge
  clear hlt hk hnk hdr hp hpost hpr hpre hol hkb hfs1 hst1 hp1 hnx
  repeat (first | refine kw_seq ?_ | refine kw_block ?_ | refine kw_region ?_ | refine kl_nil ?_ | refine kq_then ?_ | refine kw_ift rfl ?_ | refine kw_skip ?_ | (first | refine kl_move rfl rfl (.inl rfl) rfl rfl ?_ | refine kl_move rfl rfl (.inr rfl) rfl rfl ?_ | refine kl_const rfl rfl (.inl rfl) rfl ?_ | refine kl_const rfl rfl (.inr rfl) rfl ?_) | (refine kl_step0 rfl rfl rfl fun K hK => ?_; go_simp; refine hK _ ?_; clear hK K; generalize hW2 : W.setCell ⟨g3, k * 6 + 2, none⟩ (.bool a.s.retain) = W2 at HST1 HB2 ⊢; clear hcl hfr c5 hW2; have c6 := C6.out W2 HB2.out) | ((first | refine kl_step rfl rfl rfl fun K hK => ?_ | refine kl_step0 rfl rfl rfl fun K hK => ?_); go_simp; (try go_bits); (first | refine hK _ _ ?_ | refine hK _ ?_); clear hK K))
  cases qb
  case false =>
    clear hqb hqn c6
    have hlt : ¬ k < a.im := of_decide_eq_false HQB.out
    have HF := HNX.out p1 (by
      rw [HP1.out]
      unfold fillP
      rw [List.getD_eq_getElem?_getD, List.getElem?_eq_none (by rw [HIL.out]; omega)]; rfl) W2 HST1.out.1
    clear hlt HNX HST1
    repeat (first | refine kw_seq ?_ | refine kw_block ?_ | refine kw_region ?_ | refine kl_nil ?_ | refine kq_then ?_ | refine kq_block ?_ | refine kw_ift rfl ?_ | refine kw_iff rfl ?_ | refine kw_skip ?_ | refine kl_ung rfl rfl ?_ | refine kl_skipg rfl rfl rfl rfl ?_ | (first | refine kl_move rfl rfl (.inl rfl) rfl rfl ?_ | refine kl_move rfl rfl (.inr rfl) rfl rfl ?_ | refine kl_const rfl rfl (.inl rfl) rfl ?_ | refine kl_const rfl rfl (.inr rfl) rfl ?_) | ((first | refine kl_step rfl rfl rfl fun K hK => ?_ | refine kl_step0 rfl rfl rfl fun K hK => ?_); go_simp; (try go_bits); (first | refine hK _ _ ?_ | refine hK _ ?_); clear hK K))
    refine kq_again (nb - nk) [1, 3, 9] (by have := HK.out; omega) ?_
    exact ⟨nk, by have := HK.out; omega, rfl, HB2, HF, rfl⟩
  have hlt2 : k < a.im := of_decide_eq_true HQB.out
  have u2 : (k : Int) < a.im := by omega
  obtain ⟨gi, oi, eA, hci⟩ := HM1.out.init.at_ hlt2
  obtain ⟨z, hz⟩ : ∃ z, a.s.init[k]? = some z := ⟨_, List.getElem?_eq_getElem (by rw [HIL.out]; exact hlt2)⟩
  rw [List.getElem_map, (List.getElem?_eq_some_iff.1 hz).2] at hci
  have ci := Keeps.of_below HB2.out _ _ hci
  rw [eA] at c6
  obtain ⟨p2, hp2⟩ : ∃ p2 : CellV, p2 = { p1 with init := z } := ⟨_, rfl⟩
  have hfs2 := flat_set cellE pre post p1 p2 k 3 (.int .i64 z) HPRE.out (by decide) (by rw [hp2]; rfl)
  have hst2 := HST1.out.1.stored (k * 6 + 3) (.int .i64 z)
  rw [show cellE.size = 6 from rfl] at hfs2
  rw [hfs2] at hst2
  have hcl : W2.cell? ⟨g3, k * 6 + 3, none⟩ = some (.int .i64 p1.init) := by
    have := own_mid HST1.out.1 k (cellC p1) (fun j u hu => flatR_at cellE (pre ++ p1 :: post) k p1 (by rw [List.getElem?_append_right (by rw [HPRE.out]; exact Nat.le_refl _), HPRE.out, Nat.sub_self]; rfl) j u hu)
    exact this 3 _ rfl
  have hfr : W2.frozen? ⟨g3, k * 6 + 3, none⟩ = false := own_free2 HST1.out.1
  have HB3 : Hid (Below w1.heap.size w1 (W2.setCell ⟨g3, k * 6 + 3, none⟩ (.int .i64 z))) := by
    show Below _ _ _
    have hge := (HST1.out.1.lt g3 rfl).1
    exact below_grown HB2.out hst2.2 HB2.out.size hge
  have HF := HNX.out p2 (by
    rw [hp2, HP1.out]
    unfold fillP
    rw [List.getD_eq_getElem?_getD, hz]; rfl) _ hst2.1
  clear hlt2 hci hz hp2 hfs2 hst2 HNX HST1 hqb hqn eA
  repeat (first | refine kl_nil ?_ | refine kq_then ?_ | refine kw_seq ?_ | refine kw_region ?_ | refine kw_ift rfl ?_ | refine kw_iff rfl ?_ | refine kw_skip ?_ | refine kl_ung rfl rfl ?_ | refine kl_skipg rfl rfl rfl rfl ?_ | (first | refine kl_move rfl rfl (.inl rfl) rfl rfl ?_ | refine kl_move rfl rfl (.inr rfl) rfl rfl ?_ | refine kl_const rfl rfl (.inl rfl) rfl ?_ | refine kl_const rfl rfl (.inr rfl) rfl ?_) | ((first | refine kl_step rfl rfl rfl fun K hK => ?_ | refine kl_step0 rfl rfl rfl fun K hK => ?_); go_simp; (try go_bits); (first | refine hK _ _ ?_ | refine hK _ ?_); clear hK K))
  generalize W2.setCell ⟨g3, k * 6 + 3, none⟩ (.int .i64 z) = W3 at HF HB3 ⊢
  clear hcl hfr ci c6
  repeat (first | refine kw_seq ?_ | refine kw_block ?_ | refine kw_region ?_ | refine kl_nil ?_ | refine kq_then ?_ | refine kq_block ?_ | refine kw_ift rfl ?_ | refine kw_iff rfl ?_ | refine kw_skip ?_ | refine kl_ung rfl rfl ?_ | refine kl_skipg rfl rfl rfl rfl ?_ | (first | refine kl_move rfl rfl (.inl rfl) rfl rfl ?_ | refine kl_move rfl rfl (.inr rfl) rfl rfl ?_ | refine kl_const rfl rfl (.inl rfl) rfl ?_ | refine kl_const rfl rfl (.inr rfl) rfl ?_) | ((first | refine kl_step rfl rfl rfl fun K hK => ?_ | refine kl_step0 rfl rfl rfl fun K hK => ?_); go_simp; (try go_bits); (first | refine hK _ _ ?_ | refine hK _ ?_); clear hK K))
  refine kq_again (nb - nk) [1, 3, 9] (by have := HK.out; omega) ?_
  exact ⟨nk, by have := HK.out; omega, rfl, HB3, HF, rfl⟩
