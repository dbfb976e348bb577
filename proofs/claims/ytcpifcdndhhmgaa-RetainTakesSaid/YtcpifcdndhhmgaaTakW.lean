/- What is taken is given back. -/
import Derived.Test.YtcpifcdndhhmgaaTakGood8
import Derived.Test.YtcpifcdndhhmgaaTakGive
import Derived.Test.YtcpifcdndhhmgaaTakApp
import Derived.Test.YtcpifcdndhhmgaaTakFew
import Derived.Test.YtcpifcdndhhmgaaRetGood
import Derived.Test.YtcpifcdndhhmgaaTakGoodM
import Derived.Test.YtcpifcdndhhmgaaRetEq
import Derived.Test.YtcpifcdndhhmgaaTakBack
set_option linter.unusedVariables false
set_option linter.unusedSimpArgs false
namespace Go.Proofs.Ytcpifcdndhhmgaa
open Go.RowKit
attribute [local go_sem] ev_tmp ev_const ev_func ev_global lk_hit lk_miss uponK_value uponK_skip look_tmp look_const look_global look_func valP_value
theorem SymI.keep {W W' : World} {a : SymA} (h : SymI W a) (hk : Keeps W W') : SymI W' a := ⟨h.mem.keep hk, h.kind, h.elem, h.n, h.fields, h.init⟩
theorem SymsI.keep {W W' : World} {A : Option Addr} {n : Nat} {l : List SymA} (h : SymsI W A n l) (hk : Keeps W W') : SymsI W' A n l := ⟨h.row.keep hk, fun a ha => (h.mem a ha).keep hk⟩
theorem syms_each {l : List SymA} (h : SymsOk (l.map (·.s))) : ∀ a ∈ l, TypOk a.s.typ ∧ a.s.name.length ≤ 1000 := fun a ha => by
  obtain ⟨i, hi⟩ := List.getElem?_of_mem ha
  have h1 := h.2 i a.s (by rw [List.getElem?_map, hi]; rfl)
  exact ⟨h1.typ, by rw [h1.name]; simp⟩
theorem syms_few {l : List SymA} {w : World} {A : Option Addr} {n : Nat} (h : SymsOk (l.map (·.s))) (hy : Syms w A n l) : n ≤ 10 := by
  have h1 := h.1
  rw [List.length_map, hy.row.len] at h1
  exact h1
theorem takeP_len (p : List CellV) (zs : List Int) : (takeP p zs).length ≤ p.length := by
  have h1 := takeZ_len (p.zip zs)
  rw [List.length_zip] at h1
  exact Nat.le_trans h1 (Nat.min_le_left _ _)
theorem takeP_ok {l : List SymV} (h : SymsOk l) {zs : List Int} (hz : ∀ z ∈ zs, I64 z) : KsOk (takeP (cellsP l) zs) := fun k hk => by
  have h1 := take_ok (p := cellsP l) (fun c hc => by have := cells_ok h hc; exact ⟨this.1, this.2.1, this.2.2.1⟩) hz k hk
  exact ⟨by omega, h1.2.1, h1.2.2⟩
theorem goodK_ks {l : List KepS} (h : ∀ k ∈ l, I64 k.value) : KsOk (goodK l) := fun k hk => by
  obtain ⟨q, hq, rfl⟩ := List.mem_map.1 hk
  have hw := within_lt q.kind 6 (by omega)
  have h1 := goodIt_ok q (h q (List.mem_of_mem_take hq))
  refine ⟨?_, ?_, h1.val⟩
  · show (q.path.take 20).length ≤ _
    rw [List.length_take]; omega
  · show I64 ((1 + within q.kind 6 : Nat) : Int)
    unfold I64; omega
theorem ks_app {l k : List KepS} (h1 : KsOk l) (h2 : KsOk k) : KsOk (l ++ k) := fun x hx => by
  rcases List.mem_append.1 hx with h | h
  · exact h1 x h
  · exact h2 x h
theorem cell_paths {l : List SymV} (h : SymsOk l) : ∀ c ∈ cellsP l, c.path.length ≤ 9223372036854775807 ∧ I64 c.kind := fun c hc => by
  have h1 := cells_ok h hc
  exact ⟨by omega, by unfold I64; omega⟩
/-- what all worlds of the values' region meet -/
def R10 (w7 : World) (row : Option Nat) (W : World) : Prop := w7.grownBy W row
theorem bne_self_i (z : Int) : (z != z) = false := by simp
theorem RowAt.keep {w w' : World} {g i : Nat} {l : List KepS} (h : RowAt w g i l) (hk : Keeps w w') : RowAt w' g i l := by
  obtain ⟨A, n, c, h1, h2, h3⟩ := h
  exact ⟨A, n, c, hk _ _ h1, h2.keep hk, h3⟩
set_option maxRecDepth 100000 in
set_option maxHeartbeats 8000000 in
theorem retainTakes_top (Aa : Option Addr) (na ca : Nat) (la : List SymA) (Ab : Option Addr) (nb cb : Nat) (lb : List SymA) (An : Option Addr) (nn cn : Nat) (zn : List Int) (Ak : Option Addr) (nk ck : Nat) (kp : List KepS) (w : World)
    (hA : SymsI w Aa na la) (hna : na ≤ ca) (hca : ca ≤ 9223372036854775807) (hB : SymsI w Ab nb lb) (hnb : nb ≤ cb) (hcb : cb ≤ 9223372036854775807) (hN : Vs w An nn (zn.map (Value.int .i64))) (hnn : nn ≤ cn) (hcn : cn ≤ 140737488351232) (hzn : ∀ z ∈ zn, -9223372036854775808 ≤ z ∧ z ≤ 9223372036854775807) (hK : KepW w Ak nk kp) (hnk : nk ≤ ck) (hck : ck ≤ 9223372036854775807) :
    Calls Try.prog 6 #[.slice Aa na ca, .slice Ab nb cb, .slice An nn cn, .slice Ak nk ck] w fun e w' => e = .returned (.bool true) ∧ Below w.heap.size w w' := by
  have HA := Lib.hid hA
  have HB := Lib.hid hB
  have HN := Lib.hid hN
  have HK := Lib.hid hK
  have HZN : Hid (∀ z ∈ zn, I64 z) := hzn
  clear hA hB hN hK hzn
  refine calls_kw Try.func6 rfl Try.ntmps6 rfl [(0, .slice Aa na ca), (1, .slice Ab nb cb), (2, .slice An nn cn), (3, .slice Ak nk ck)] rfl ?_
  repeat (first | refine kw_seq ?_ | refine kw_region ?_ | refine kl_nil ?_ | refine kq_then ?_ | (first | refine kl_move rfl rfl (.inl rfl) rfl rfl ?_ | refine kl_move rfl rfl (.inr rfl) rfl rfl ?_ | refine kl_const rfl rfl (.inl rfl) rfl ?_ | refine kl_const rfl rfl (.inr rfl) rfl ?_))
  refine kl_call rfl rfl rfl Try.func8 rfl (by kernel_rfl) rfl ?_
  refine Calls.mono (known16_any w) ?_
  rintro e w0 ⟨rfl, hb0⟩
  refine ⟨_, rfl, ?_⟩
  have HB0 := Lib.hid hb0
  clear hb0
  repeat (first | refine kw_seq ?_ | refine kw_region ?_ | refine kl_nil ?_ | refine kq_then ?_ | refine kw_ift rfl ?_ | refine kw_iff rfl ?_ | refine kw_skip ?_ | refine kl_ung rfl rfl ?_ | refine kl_skipg rfl rfl rfl rfl ?_ | (first | refine kl_move rfl rfl (.inl rfl) rfl rfl ?_ | refine kl_move rfl rfl (.inr rfl) rfl rfl ?_ | refine kl_const rfl rfl (.inl rfl) rfl ?_ | refine kl_const rfl rfl (.inr rfl) rfl ?_) | ((first | refine kl_step rfl rfl rfl fun K hK => ?_ | refine kl_step0 rfl rfl rfl fun K hK => ?_); go_simp; (try go_bits); (first | refine hK _ _ ?_ | refine hK _ ?_); clear hK K))
  refine kl_call rfl rfl rfl Try.func26 rfl (by kernel_rfl) rfl ?_
  refine Calls.mono (few8_any Aa na ca la w0 (HA.out.syms.keep (.of_below HB0.out)) hna hca) ?_
  rintro e w1 ⟨rfl, hb1⟩
  refine ⟨_, rfl, ?_⟩
  have HB1 := Lib.hid (below_then HB0.out hb1 HB0.out.size)
  clear hb1 HB0
  cases hfa : few8 la
  case false =>
    repeat (first | refine kw_seq ?_ | refine kw_block ?_ | refine kw_skip ?_ | refine kw_region ?_ | refine kl_nil ?_ | refine kq_then ?_ | refine kq_block ?_ | refine kw_exit ?_ | refine kq_then_exit ?_ | refine kq_block_here rfl ?_ | refine kq_block_far rfl ?_ | refine kq_again_exit ?_ | refine kw_ret ?_ | refine kq_then_ret ?_ | refine kq_block_ret ?_ | refine kq_again_ret ?_ | refine kw_ift rfl ?_ | refine kw_iff rfl ?_ | refine kl_ung rfl rfl ?_ | refine kl_skipg rfl rfl rfl rfl ?_ | refine kl_skipg0 rfl rfl rfl ?_ | (first | refine kl_move rfl rfl (.inl rfl) rfl rfl ?_ | refine kl_move rfl rfl (.inr rfl) rfl rfl ?_ | refine kl_const rfl rfl (.inl rfl) rfl ?_ | refine kl_const rfl rfl (.inr rfl) rfl ?_) | ((first | refine kl_step rfl rfl rfl fun K hK => ?_ | refine kl_step0 rfl rfl rfl fun K hK => ?_); go_simp; (try go_bits); (first | refine hK _ _ ?_ | refine hK _ ?_); clear hK K))
    exact kq_ret1 rfl rfl ⟨rfl, HB1.out⟩
  clear hfa
  repeat (first | refine kl_nil ?_ | refine kq_then ?_ | refine kl_ung rfl rfl ?_ | refine kl_skipg rfl rfl rfl rfl ?_ | (first | refine kl_move rfl rfl (.inl rfl) rfl rfl ?_ | refine kl_move rfl rfl (.inr rfl) rfl rfl ?_ | refine kl_const rfl rfl (.inl rfl) rfl ?_ | refine kl_const rfl rfl (.inr rfl) rfl ?_) | ((first | refine kl_step rfl rfl rfl fun K hK => ?_ | refine kl_step0 rfl rfl rfl fun K hK => ?_); go_simp; (try go_bits); (first | refine hK _ _ ?_ | refine hK _ ?_); clear hK K))
  refine kl_call rfl rfl rfl Try.func26 rfl (by kernel_rfl) rfl ?_
  refine Calls.mono (few8_any Ab nb cb lb w1 (HB.out.syms.keep (.of_below HB1.out)) hnb hcb) ?_
  rintro e w2 ⟨rfl, hb2⟩
  refine ⟨_, rfl, ?_⟩
  have HB2 := Lib.hid (below_then HB1.out hb2 HB1.out.size)
  clear hb2 HB1
  cases hfb : few8 lb
  case false =>
    repeat (first | refine kw_seq ?_ | refine kw_block ?_ | refine kw_skip ?_ | refine kw_region ?_ | refine kl_nil ?_ | refine kq_then ?_ | refine kq_block ?_ | refine kw_exit ?_ | refine kq_then_exit ?_ | refine kq_block_here rfl ?_ | refine kq_block_far rfl ?_ | refine kq_again_exit ?_ | refine kw_ret ?_ | refine kq_then_ret ?_ | refine kq_block_ret ?_ | refine kq_again_ret ?_ | refine kw_ift rfl ?_ | refine kw_iff rfl ?_ | refine kl_ung rfl rfl ?_ | refine kl_skipg rfl rfl rfl rfl ?_ | refine kl_skipg0 rfl rfl rfl ?_ | (first | refine kl_move rfl rfl (.inl rfl) rfl rfl ?_ | refine kl_move rfl rfl (.inr rfl) rfl rfl ?_ | refine kl_const rfl rfl (.inl rfl) rfl ?_ | refine kl_const rfl rfl (.inr rfl) rfl ?_) | ((first | refine kl_step rfl rfl rfl fun K hK => ?_ | refine kl_step0 rfl rfl rfl fun K hK => ?_); go_simp; (try go_bits); (first | refine hK _ _ ?_ | refine hK _ ?_); clear hK K))
    exact kq_ret1 rfl rfl ⟨rfl, HB2.out⟩
  clear hfb
  repeat (first | refine kl_nil ?_ | refine kq_then ?_ | refine kl_ung rfl rfl ?_ | refine kl_skipg rfl rfl rfl rfl ?_ | (first | refine kl_move rfl rfl (.inl rfl) rfl rfl ?_ | refine kl_move rfl rfl (.inr rfl) rfl rfl ?_ | refine kl_const rfl rfl (.inl rfl) rfl ?_ | refine kl_const rfl rfl (.inr rfl) rfl ?_) | ((first | refine kl_step rfl rfl rfl fun K hK => ?_ | refine kl_step0 rfl rfl rfl fun K hK => ?_); go_simp; (try go_bits); (first | refine hK _ _ ?_ | refine hK _ ?_); clear hK K))
  refine kl_call rfl rfl rfl Try.func17 rfl (by kernel_rfl) rfl ?_
  refine Calls.mono (few16_any Ak nk ck kp w2 (HK.out.row.keep (.of_below HB2.out)) hnk hck) ?_
  rintro e _ ⟨rfl, rfl⟩
  refine ⟨_, rfl, ?_⟩
  cases hfk : fewK kp
  case false =>
    repeat (first | refine kw_seq ?_ | refine kw_block ?_ | refine kw_skip ?_ | refine kw_region ?_ | refine kl_nil ?_ | refine kq_then ?_ | refine kq_block ?_ | refine kw_exit ?_ | refine kq_then_exit ?_ | refine kq_block_here rfl ?_ | refine kq_block_far rfl ?_ | refine kq_again_exit ?_ | refine kw_ret ?_ | refine kq_then_ret ?_ | refine kq_block_ret ?_ | refine kq_again_ret ?_ | refine kw_ift rfl ?_ | refine kw_iff rfl ?_ | refine kl_ung rfl rfl ?_ | refine kl_skipg rfl rfl rfl rfl ?_ | refine kl_skipg0 rfl rfl rfl ?_ | (first | refine kl_move rfl rfl (.inl rfl) rfl rfl ?_ | refine kl_move rfl rfl (.inr rfl) rfl rfl ?_ | refine kl_const rfl rfl (.inl rfl) rfl ?_ | refine kl_const rfl rfl (.inr rfl) rfl ?_) | ((first | refine kl_step rfl rfl rfl fun K hK => ?_ | refine kl_step0 rfl rfl rfl fun K hK => ?_); go_simp; (try go_bits); (first | refine hK _ _ ?_ | refine hK _ ?_); clear hK K))
    exact kq_ret1 rfl rfl ⟨rfl, HB2.out⟩
  clear hfk
  repeat (first | refine kw_seq ?_ | refine kw_region ?_ | refine kl_nil ?_ | refine kq_then ?_ | refine kw_ift rfl ?_ | refine kw_iff rfl ?_ | refine kw_skip ?_ | refine kl_ung rfl rfl ?_ | refine kl_skipg rfl rfl rfl rfl ?_ | (first | refine kl_move rfl rfl (.inl rfl) rfl rfl ?_ | refine kl_move rfl rfl (.inr rfl) rfl rfl ?_ | refine kl_const rfl rfl (.inl rfl) rfl ?_ | refine kl_const rfl rfl (.inr rfl) rfl ?_) | ((first | refine kl_step rfl rfl rfl fun K hK => ?_ | refine kl_step0 rfl rfl rfl fun K hK => ?_); go_simp; (try go_bits); (first | refine hK _ _ ?_ | refine hK _ ?_); clear hK K))
  refine kl_call rfl rfl rfl Try.func28 rfl (by kernel_rfl) rfl ?_
  refine Calls.mono (good8_any Aa na ca la w2 (HA.out.keep (.of_below HB2.out)) hna hca) ?_
  rintro e w3 ⟨A1, n1, c1, l1, rfl, hY1, hok1, hn1, hc1, hb3⟩
  refine ⟨_, rfl, ?_⟩
  refine kl_call rfl rfl rfl Try.func27 rfl (by kernel_rfl) rfl ?_
  refine Calls.mono (cells8_any A1 n1 c1 l1 w3 hY1 (by have := syms_few hok1 hY1; omega) (syms_each hok1)) ?_
  rintro e w4 ⟨A2, n2, c2, rfl, hp4, hn2, hc2, hb4, _⟩
  refine ⟨_, rfl, ?_⟩
  obtain ⟨p, hp⟩ : ∃ p, cellsP (l1.map (·.s)) = p := ⟨_, rfl⟩
  rw [hp] at hp4
  have HP : Hid (SymsOk (l1.map (·.s)) ∧ cellsP (l1.map (·.s)) = p) := ⟨hok1, hp⟩
  have HP4 := Lib.hid hp4
  have hp80 : n2 ≤ 80 := by have h1 := cells_len hok1; have h2 := hp4.len; rw [hp] at h1; omega
  have HB4 := Lib.hid (below_then (below_then HB2.out hb3 HB2.out.size) hb4 (Nat.le_trans HB2.out.size hb3.size))
  have HC2 := Lib.hid (And.intro hn2 hc2)
  clear hY1 hok1 hn1 hc1 hb3 hp hp4 hn2 hc2 hb4 HB2
  repeat (first | (first | refine kl_move rfl rfl (.inl rfl) rfl rfl ?_ | refine kl_move rfl rfl (.inr rfl) rfl rfl ?_ | refine kl_const rfl rfl (.inl rfl) rfl ?_ | refine kl_const rfl rfl (.inr rfl) rfl ?_))
  refine kl_call rfl rfl rfl Try.func28 rfl (by kernel_rfl) rfl ?_
  refine Calls.mono (good8_any Ab nb cb lb w4 (HB.out.keep (.of_below HB4.out)) hnb hcb) ?_
  rintro e w5 ⟨B1, m1, d1, k1, rfl, hY1, hok1, hn1, hc1, hb5⟩
  refine ⟨_, rfl, ?_⟩
  refine kl_call rfl rfl rfl Try.func27 rfl (by kernel_rfl) rfl ?_
  refine Calls.mono (cells8_any B1 m1 d1 k1 w5 hY1 (by have := syms_few hok1 hY1; omega) (syms_each hok1)) ?_
  rintro e w6 ⟨B2, m2, d2, rfl, hq6, hm2, hd2, hb6, _⟩
  refine ⟨_, rfl, ?_⟩
  obtain ⟨q, hq⟩ : ∃ q, cellsP (k1.map (·.s)) = q := ⟨_, rfl⟩
  rw [hq] at hq6
  have HQ : Hid (SymsOk (k1.map (·.s)) ∧ cellsP (k1.map (·.s)) = q) := ⟨hok1, hq⟩
  have HQ6 := Lib.hid hq6
  have hq80 : m2 ≤ 80 := by have h1 := cells_len hok1; have h2 := hq6.len; rw [hq] at h1; omega
  have hb46 := below_then hb5 hb6 hb5.size
  have HB6 := Lib.hid (below_then HB4.out hb46 HB4.out.size)
  have HP6 := Lib.hid (HP4.out.keep (.of_below hb46))
  have HD2 := Lib.hid (And.intro hm2 hd2)
  clear hY1 hok1 hn1 hc1 hb5 hq hq6 hm2 hd2 hb6 hb46 HB4 HP4 HA HB
  repeat (first | refine kw_seq ?_ | refine kw_region ?_ | refine kl_nil ?_ | refine kq_then ?_ | (first | refine kl_move rfl rfl (.inl rfl) rfl rfl ?_ | refine kl_move rfl rfl (.inr rfl) rfl rfl ?_ | refine kl_const rfl rfl (.inl rfl) rfl ?_ | refine kl_const rfl rfl (.inr rfl) rfl ?_))
  refine kl_call rfl rfl rfl Try.func29 rfl (by kernel_rfl) rfl ?_
  refine Calls.mono (begin8_any A2 n2 c2 p w6 HP6.out (by omega)) ?_
  rintro e w7 ⟨v7, rfl, ho7, hb7⟩
  refine ⟨_, rfl, ?_⟩
  obtain ⟨AV, cV, rfl, hV1, hV2, _, hV4⟩ := own_slice ho7
  obtain ⟨row, hrow⟩ : ∃ row, (Value.slice AV n2 cV).ownBlock = row := ⟨_, rfl⟩
  have HROW : Hid (∀ k, row = some k → w6.heap.size ≤ k) := fun k e => (ho7.lt k (by rw [hrow]; exact e)).1
  have HRB := Lib.hid hrow
  have hzi : Hid ((p.map (·.init)).length = n2 ∧ ∀ z ∈ p.map (·.init), I64 z) := ⟨by rw [List.length_map]; exact HP6.out.len, fun z hz => by
    obtain ⟨c, hc, rfl⟩ := List.mem_map.1 hz
    rw [← HP.out.2] at hc
    exact (cells_ok HP.out.1 hc).2.2.2⟩
  have HO7 : Hid (w7.ownsRow w6.heap.size 3 1 (.slice AV n2 cV) n2 ((p.map (·.init)).map (Value.int .i64))) := by
    show World.ownsRow _ _ _ _ _ _ _
    rw [List.map_map]; exact ho7
  have HB7 := Lib.hid (below_then HB6.out hb7 HB6.out.size)
  have HP7 := Lib.hid (HP6.out.keep (.of_below hb7))
  have HQ7 := Lib.hid (HQ6.out.keep (.of_below hb7))
  have HN7 := Lib.hid (HN.out.keep (.of_below HB7.out))
  have HCV : Hid (n2 ≤ cV ∧ cV ≤ 9223372036854775807) := ⟨hV1, by simpa [maxLen] using hV2⟩
  have HPW : Hid (0 < n2 → ∀ a, A2 = some a → row ≠ some a.block) := fun h a e e2 => by have h1 : a.block < w6.heap.size := HP6.out.inQ h a e; have h2 := HROW.out _ e2; omega
  have HQW : Hid (0 < m2 → ∀ a, B2 = some a → row ≠ some a.block) := fun h a e e2 => by have h1 : a.block < w6.heap.size := HQ6.out.inQ h a e; have h2 := HROW.out _ e2; omega
  have HNW : Hid (0 < nn → ∀ a, An = some a → row ≠ some a.block) := fun h a e e2 => by have h1 := vs_inQ HN.out h a e; have h2 := HROW.out _ e2; have h3 := HB6.out.size; omega
  clear ho7 hb7 hrow hV1 hV2 hV4 HN HP6 HQ6
  repeat (first | refine kw_seq ?_ | refine kw_region ?_ | refine kl_nil ?_ | refine kq_then ?_ | (first | refine kl_move rfl rfl (.inl rfl) rfl rfl ?_ | refine kl_move rfl rfl (.inr rfl) rfl rfl ?_ | refine kl_const rfl rfl (.inl rfl) rfl ?_ | refine kl_const rfl rfl (.inr rfl) rfl ?_))
  refine KW.less [2, 3, 9, 10, 11, 12] ?_
  simp only [nrm, lk, Nat.reduceBEq, cond_true, cond_false]
  refine kw_cutf (fun L W => ∃ zs : List Int, Hid (zs.length = n2 ∧ ∀ z ∈ zs, I64 z) ∧ Hid (w7.grownBy W row) ∧ Hid (W.ownsRow w6.heap.size 3 1 (.slice AV n2 cV) n2 (zs.map (Value.int .i64))) ∧ L = [(3, .slice Ak nk ck), (9, .slice A2 n2 c2), (10, .slice B2 m2 d2), (11, .slice AV n2 cV)]) ?_ ?_
  · intro Q'
    refine kw_block ?_
    refine kw_loop (fun mm L W => ∃ (k : Nat) (zs : List Int), k ≤ n2 ∧ mm = n2 - k ∧ Hid (zs.length = n2 ∧ ∀ z ∈ zs, I64 z) ∧ Hid (w7.grownBy W row) ∧ Hid (W.ownsRow w6.heap.size 3 1 (.slice AV n2 cV) n2 (zs.map (Value.int .i64))) ∧ L = [(2, .slice An nn cn), (3, .slice Ak nk ck), (9, .slice A2 n2 c2), (10, .slice B2 m2 d2), (11, .slice AV n2 cV), (12, .int .i64 (k : Int))]) ⟨0, _, by omega, rfl, hzi, grown_refl _ _, HO7, rfl⟩ ?_
    clear HO7 hzi
    rintro mm L W ⟨k, zs, hk, rfl, hzs, hG, hO, rfl⟩
    have hl1 : (n2 : Int) ≤ 9223372036854775807 := by omega
    have hl2 : (nn : Int) ≤ 9223372036854775807 := by omega
    by_cases hlt : k < n2
    case neg =>
      have t1 : decide ((k : Int) < (n2 : Int)) = false := by rw [decide_eq_false_iff_not]; omega
      have t1n : decide (k < n2) = false := decide_eq_false hlt
      clear hlt hk
      repeat (first | refine kw_seq ?_ | refine kw_block ?_ | refine kw_region ?_ | refine kl_nil ?_ | refine kq_then ?_ | refine kq_block ?_ | refine kw_ift rfl ?_ | refine kw_iff rfl ?_ | refine kw_skip ?_ | refine kw_exit ?_ | refine kq_then_exit ?_ | refine kq_block_here rfl ?_ | refine kq_block_far rfl ?_ | refine kq_again_exit ?_ | refine kl_ung rfl rfl ?_ | refine kl_skipg rfl rfl rfl rfl ?_ | (first | refine kl_move rfl rfl (.inl rfl) rfl rfl ?_ | refine kl_move rfl rfl (.inr rfl) rfl rfl ?_ | refine kl_const rfl rfl (.inl rfl) rfl ?_ | refine kl_const rfl rfl (.inr rfl) rfl ?_) | ((first | refine kl_step rfl rfl rfl fun K hK => ?_ | refine kl_step0 rfl rfl rfl fun K hK => ?_); go_simp; (try go_bits); (first | refine hK _ _ ?_ | refine hK _ ?_); clear hK K))
      refine kq_cut [3, 9, 10, 11] ?_
      exact ⟨zs, hzs, hG, hO, rfl⟩
    have t1 : decide ((k : Int) < (n2 : Int)) = true := by rw [decide_eq_true_eq]; omega
    have t1n : decide (k < n2) = true := decide_eq_true hlt
    by_cases hlt2 : k < nn
    case neg =>
      have t2 : decide ((k : Int) < (nn : Int)) = false := by rw [decide_eq_false_iff_not]; omega
      have t2n : decide (k < nn) = false := decide_eq_false hlt2
      clear hlt hlt2 hk
      repeat (first | refine kw_seq ?_ | refine kw_block ?_ | refine kw_region ?_ | refine kl_nil ?_ | refine kq_then ?_ | refine kq_block ?_ | refine kw_ift rfl ?_ | refine kw_iff rfl ?_ | refine kw_skip ?_ | refine kw_exit ?_ | refine kq_then_exit ?_ | refine kq_block_here rfl ?_ | refine kq_block_far rfl ?_ | refine kq_again_exit ?_ | refine kl_ung rfl rfl ?_ | refine kl_skipg rfl rfl rfl rfl ?_ | (first | refine kl_move rfl rfl (.inl rfl) rfl rfl ?_ | refine kl_move rfl rfl (.inr rfl) rfl rfl ?_ | refine kl_const rfl rfl (.inl rfl) rfl ?_ | refine kl_const rfl rfl (.inr rfl) rfl ?_) | ((first | refine kl_step rfl rfl rfl fun K hK => ?_ | refine kl_step0 rfl rfl rfl fun K hK => ?_); go_simp; (try go_bits); (first | refine hK _ _ ?_ | refine hK _ ?_); clear hK K))
      refine kq_cut [3, 9, 10, 11] ?_
      exact ⟨zs, hzs, hG, hO, rfl⟩
    have t2 : decide ((k : Int) < (nn : Int)) = true := by rw [decide_eq_true_eq]; omega
    have t2n : decide (k < nn) = true := decide_eq_true hlt2
    obtain ⟨nk1, hnk1⟩ : ∃ nk1, k + 1 = nk1 := ⟨_, rfl⟩
    have k1 : (k : Int) + 1 = (nk1 : Int) := by omega
    have k2 : (0 : Int) ≤ nk1 := by omega
    have k3 : (nk1 : Int) ≤ 80 := by omega
    have k4 : (0 : Int) ≤ k := by omega
    have k5 : (k : Int) < n2 := by omega
    have k6 : (k : Int) < nn := by omega
    have HI := Lib.hid (And.intro hnk1 (And.intro hlt hlt2))
    obtain ⟨gn, on, rfl, hcn'⟩ := HN7.out.at_ hlt2
    obtain ⟨z, hz⟩ : ∃ z, zn[k]? = some z := ⟨_, List.getElem?_eq_getElem (by have := HN7.out.1; simp at this; omega)⟩
    rw [List.getElem_map, (List.getElem?_eq_some_iff.1 hz).2] at hcn'
    have HZ : Hid (I64 z) := HZN.out z (List.mem_of_getElem? hz)
    obtain ⟨gp, op, cc, rfl, hrc, _, hxc⟩ := HP7.out.next hlt
    obtain ⟨kd, hkd⟩ : ∃ kd, cc.kind = kd := ⟨_, rfl⟩
    have hc7 : w7.cell? ⟨gp, op + k * 6 + 1, none⟩ = some (.int .i64 kd) := by rw [← hkd]; exact hrc 1 _ rfl
    have r1 : ∀ W, R10 w7 row W → W.cell? ⟨gp, op + k * 6 + 1, none⟩ = some (.int .i64 kd) := fun W h => h.cell hc7 (fun e => HPW.out (by omega) _ rfl e.symm)
    have r2 : ∀ W, R10 w7 row W → W.cell? ⟨gn, on + k, none⟩ = some (.int .i64 z) := fun W h => h.cell hcn' (fun e => HNW.out (by omega) _ rfl e.symm)
    obtain ⟨gV, cV', eV, hV5, hV6, _⟩ := own_formC hO.out (by omega)
    injection eV with eV1 eV2 eV3
    subst eV1
    subst eV3
    have HRV : Hid (row = some gV) := by show _ = _; rw [← HRB.out]; rfl
    obtain ⟨z2, hz2⟩ : ∃ z2, wrapK kd z = z2 := ⟨_, rfl⟩
    have HZ2 : Hid (wrapK kd z = z2 ∧ I64 z2) := ⟨hz2, by rw [← hz2]; exact wrapK_i64 _ _ HZ.out⟩
    have hR : R10 w7 row W.drew := grown_trans hG.out (grown_of_below ((Below.refl _ W).drew) _)
    have hO8 := Lib.hid (own_below hO.out ((Below.refl _ W).drew))
    clear hlt hlt2 hk hnk1 hcn' hz hrc hxc hc7 hkd hV5 hV6 hz2 hG hO
    repeat (first | refine kw_seq ?_ | refine kw_block ?_ | refine kw_region ?_ | refine kl_nil ?_ | refine kq_then ?_ | refine kq_block ?_ | refine kw_ift rfl ?_ | refine kw_iff rfl ?_ | refine kw_skip ?_ | refine kl_ung rfl rfl ?_ | refine kl_skipg rfl rfl rfl rfl ?_ | (first | refine kl_move rfl rfl (.inl rfl) rfl rfl ?_ | refine kl_move rfl rfl (.inr rfl) rfl rfl ?_ | refine kl_const rfl rfl (.inl rfl) rfl ?_ | refine kl_const rfl rfl (.inr rfl) rfl ?_) | ((first | refine kl_step rfl rfl rfl fun K hK => ?_ | refine kl_step0 rfl rfl rfl fun K hK => ?_); go_simp; (try go_bits); (first | refine hK _ _ ?_ | refine hK _ ?_); clear hK K))
    refine kw_region_f (R10 w7 row) [true, true, true, true, true, true, true, true, true, true, true, false, true, false] (by kernel_rfl) (by kernel_rfl) hR ?_
    generalize W.drew = W8 at *
    clear t1 t1n t2 t2n
    repeat (first | refine kf_nil ?_ | refine kf_ung rfl rfl ?_ | refine kf_skipg rfl rfl rfl rfl ?_ | (first | refine kf_move rfl rfl (.inl rfl) rfl rfl ?_ | refine kf_move rfl rfl (.inr rfl) rfl rfl ?_ | refine kf_const rfl rfl (.inl rfl) rfl ?_ | refine kf_const rfl rfl (.inr rfl) rfl ?_) | (refine kf_val rfl rfl rfl ?_; apply Exists.intro; refine And.intro (fun W hW N hN => ?_) ?_; · (go_simp; (try go_bits); exact hN)))
    refine kf_ch ?_
    refine kl_call rfl rfl rfl Try.func30 rfl (by kernel_rfl) rfl ?_
    refine Calls.mono (wrapR_any kd z W8) ?_
    rintro e _ ⟨rfl, rfl⟩
    refine ⟨_, rfl, ?_⟩
    rw [HZ2.out.1]
    refine kl_nil ?_
    refine kq_f hR ?_
    repeat (first | refine kf_nil ?_ | refine kf_ung rfl rfl ?_ | refine kf_skipg rfl rfl rfl rfl ?_ | (first | refine kf_move rfl rfl (.inl rfl) rfl rfl ?_ | refine kf_move rfl rfl (.inr rfl) rfl rfl ?_ | refine kf_const rfl rfl (.inl rfl) rfl ?_ | refine kf_const rfl rfl (.inr rfl) rfl ?_) | (refine kf_val rfl rfl rfl ?_; apply Exists.intro; refine And.intro (fun W hW N hN => ?_) ?_; · (go_simp; (try go_bits); exact hN)))
    have hst := hO8.out.stored k (.int .i64 z2)
    rw [show (zs.map (Value.int .i64)).set k (.int .i64 z2) = (zs.set k z2).map (Value.int .i64) from List.map_set.symm] at hst
    have c8 : ∃ y, W8.cell? ⟨gV, k, none⟩ = some y := ⟨_, own_at1 hO8.out (List.getElem?_eq_getElem (by simp; rw [hzs.out.1]; exact HI.out.2.1))⟩
    obtain ⟨y8, c8⟩ := c8
    have f8 : W8.frozen? ⟨gV, k, none⟩ = false := own_free1 hO8.out
    have hG9 : Hid (w7.grownBy (W8.setCell ⟨gV, k, none⟩ (.int .i64 z2)) row) := grown_trans (show w7.grownBy W8 row from hR) (by rw [HRV.out]; exact hst.2)
    have hO9 := Lib.hid hst.1
    have hzs9 : Hid ((zs.set k z2).length = n2 ∧ ∀ z ∈ zs.set k z2, I64 z) := ⟨by rw [List.length_set]; exact hzs.out.1, fun y hy => by
      rcases List.mem_or_eq_of_mem_set hy with h | rfl
      · exact hzs.out.2 y h
      · exact HZ2.out.2⟩
    clear hst hO8 r1 r2
    refine kf_ch ?_
    (first | ((first | refine kl_step rfl rfl rfl fun K hK => ?_ | refine kl_step0 rfl rfl rfl fun K hK => ?_); go_simp; (try go_bits); (first | refine hK _ _ ?_ | refine hK _ ?_); clear hK K))
    clear c8 f8 hR
    generalize W8.setCell ⟨gV, k, none⟩ (.int .i64 z2) = W9 at hG9 hO9 ⊢
    refine kl_nil ?_
    refine kq_f hG9.out ?_
    repeat (first | refine kf_nil ?_ | refine kf_ung rfl rfl ?_ | refine kf_skipg rfl rfl rfl rfl ?_ | (first | refine kf_move rfl rfl (.inl rfl) rfl rfl ?_ | refine kf_move rfl rfl (.inr rfl) rfl rfl ?_ | refine kf_const rfl rfl (.inl rfl) rfl ?_ | refine kf_const rfl rfl (.inr rfl) rfl ?_) | (refine kf_val rfl rfl rfl ?_; apply Exists.intro; refine And.intro (fun W hW N hN => ?_) ?_; · (go_simp; (try go_bits); exact hN)))
    repeat (first | refine kw_seq ?_ | refine kw_block ?_ | refine kw_region ?_ | refine kl_nil ?_ | refine kq_then ?_ | refine kq_block ?_ | refine kw_ift rfl ?_ | refine kw_iff rfl ?_ | refine kw_skip ?_ | refine kl_ung rfl rfl ?_ | refine kl_skipg rfl rfl rfl rfl ?_ | (first | refine kl_move rfl rfl (.inl rfl) rfl rfl ?_ | refine kl_move rfl rfl (.inr rfl) rfl rfl ?_ | refine kl_const rfl rfl (.inl rfl) rfl ?_ | refine kl_const rfl rfl (.inr rfl) rfl ?_) | ((first | refine kl_step rfl rfl rfl fun K hK => ?_ | refine kl_step0 rfl rfl rfl fun K hK => ?_); go_simp; (try go_bits); (first | refine hK _ _ ?_ | refine hK _ ?_); clear hK K))
    refine kq_again (n2 - nk1) [2, 3, 9, 10, 11, 12] (by have := HI.out; omega) ?_
    exact ⟨nk1, _, by have := HI.out; omega, rfl, hzs9, hG9, hO9, rfl⟩
  clear HO7 hzi HNW HN7 HZN
  rintro L W ⟨zs, hzs, hG, hO, rfl⟩
  have HPW9 := Lib.hid (rw_grownR HP7.out hG.out HPW.out)
  have HQW9 := Lib.hid (rw_grownR HQ7.out hG.out HQW.out)
  have HBW := Lib.hid (below_own HB7.out hG.out HB7.out.size (fun r e => Nat.le_trans HB6.out.size (HROW.out r e)))
  have HVW := Lib.hid (Vs.of_own hO.out)
  clear HP7 HQ7 hG hO HPW HQW HB7 HROW HRB
  repeat (first | refine kw_seq ?_ | refine kw_region ?_ | refine kl_nil ?_ | refine kq_then ?_ | (first | refine kl_move rfl rfl (.inl rfl) rfl rfl ?_ | refine kl_move rfl rfl (.inr rfl) rfl rfl ?_ | refine kl_const rfl rfl (.inl rfl) rfl ?_ | refine kl_const rfl rfl (.inr rfl) rfl ?_))
  refine kl_call rfl rfl rfl Try.func31 rfl (by kernel_rfl) rfl ?_
  refine Calls.mono (take_any A2 n2 c2 p AV n2 cV zs W HPW9.out (by omega) HVW.out (by omega)) ?_
  rintro e w8 ⟨A3, n3, c3, rfl, hk3, hn3, hc3, hb8, _, h03⟩
  refine ⟨_, rfl, ?_⟩
  obtain ⟨t, ht⟩ : ∃ t, takeP p zs = t := ⟨_, rfl⟩
  rw [ht] at hk3
  have HT := Lib.hid ht
  have hn380 : n3 ≤ 80 := by have h1 := takeP_len p zs; have h2 := hk3.len; have h3 := HPW9.out.len; rw [ht] at h1; omega
  have HP8 := Lib.hid (HPW9.out.keep (.of_below hb8))
  have HQ8 := Lib.hid (HQW9.out.keep (.of_below hb8))
  have HV8 := Lib.hid (HVW.out.keep (.of_below hb8))
  have HB8 := Lib.hid (below_then HBW.out hb8 HBW.out.size)
  clear ht HPW9 HQW9 HVW HBW hb8
  repeat (first | refine kw_seq ?_ | refine kw_region ?_ | refine kl_nil ?_ | refine kq_then ?_ | (first | refine kl_move rfl rfl (.inl rfl) rfl rfl ?_ | refine kl_move rfl rfl (.inr rfl) rfl rfl ?_ | refine kl_const rfl rfl (.inl rfl) rfl ?_ | refine kl_const rfl rfl (.inr rfl) rfl ?_))
  refine kl_call rfl rfl rfl Try.func32 rfl (by kernel_rfl) rfl ?_
  refine Calls.mono (takeR_any A2 n2 c2 p AV n2 cV zs w8 HP8.out (by omega) HV8.out (by omega)) ?_
  rintro e w9 ⟨A4, n4, c4, rfl, hk4, hn4, hc4, hb9, _⟩
  refine ⟨_, rfl, ?_⟩
  rw [HT.out] at hk4
  have hn480 : n4 = n3 := by have h2 := hk3.len; have h3 := hk4.len; omega
  replace hk3 := hk3.keep (.of_below hb9)
  refine kl_call rfl rfl rfl Try.func13 rfl (by kernel_rfl) rfl ?_
  refine Calls.mono (same16_any A3 A4 n3 c3 n4 c4 t t w9 hk3 hk4 (by omega) (by omega)) ?_
  rintro e w10 ⟨rfl, hb10⟩
  refine ⟨_, rfl, ?_⟩
  rw [eqKs_self]
  have hb810 := below_then hb9 hb10 hb9.size
  have HK3 := Lib.hid (hk3.keep (.of_below hb10))
  have HP10 := Lib.hid (HP8.out.keep (.of_below hb810))
  have HQ10 := Lib.hid (HQ8.out.keep (.of_below hb810))
  have HV10 := Lib.hid (HV8.out.keep (.of_below hb810))
  have HB10 := Lib.hid (below_then HB8.out hb810 HB8.out.size)
  have HC3 := Lib.hid (And.intro hn3 hc3)
  have H03 := Lib.hid h03
  clear hk3 hk4 hn4 hc4 hb9 hb10 hb810 HP8 HQ8 HV8 HB8 hn480 hn3 hc3 h03
  repeat (first | refine kw_seq ?_ | refine kw_region ?_ | refine kl_nil ?_ | refine kq_then ?_ | refine kw_ift rfl ?_ | refine kw_iff rfl ?_ | refine kw_skip ?_ | refine kl_ung rfl rfl ?_ | refine kl_skipg rfl rfl rfl rfl ?_ | (first | refine kl_move rfl rfl (.inl rfl) rfl rfl ?_ | refine kl_move rfl rfl (.inr rfl) rfl rfl ?_ | refine kl_const rfl rfl (.inl rfl) rfl ?_ | refine kl_const rfl rfl (.inr rfl) rfl ?_) | ((first | refine kl_step rfl rfl rfl fun K hK => ?_ | refine kl_step0 rfl rfl rfl fun K hK => ?_); go_simp; (try go_bits); (first | refine hK _ _ ?_ | refine hK _ ?_); clear hK K))
  refine kl_call rfl rfl rfl Try.func19 rfl (by kernel_rfl) rfl ?_
  refine Calls.mono (good16_any Ak nk ck kp w10 (HK.out.row.keep (.of_below HB10.out)) hnk hck) ?_
  rintro e w11 ⟨v11, rfl, ho11, hb11⟩
  refine ⟨_, rfl, ?_⟩
  obtain ⟨A5, c5, rfl, hk5, hn5, hc5, h05, _⟩ := own_kes2 ho11 rfl
  obtain ⟨gk, hgk⟩ : ∃ gk, goodK kp = gk := ⟨_, rfl⟩
  have hn524 : gk.length ≤ 24 := by rw [← hgk, goodK_len]; exact Nat.min_le_left _ _
  have HGS : Hid (KsOk gk) := by show KsOk _; rw [← hgk]; exact goodK_ks HK.out.val
  rw [hgk] at hk5 hn5 h05 ⊢
  obtain ⟨n5, hn5e⟩ : ∃ n5, gk.length = n5 := ⟨_, rfl⟩
  rw [hn5e] at hk5 hn5 h05 hn524 ⊢
  have HK3b := Lib.hid (HK3.out.keep (.of_below hb11))
  have HK5 := Lib.hid hk5
  have HC5 := Lib.hid (And.intro hn5 hc5)
  have HB11 := Lib.hid (below_then HB10.out hb11 HB10.out.size)
  have HP11 := Lib.hid (HP10.out.keep (.of_below hb11))
  have HQ11 := Lib.hid (HQ10.out.keep (.of_below hb11))
  have HV11 := Lib.hid (HV10.out.keep (.of_below hb11))
  clear ho11 hgk hk5 hn5 hc5 h05 hn5e hb11 HK3 HP10 HQ10 HV10 HB10 HK
  (first | ((first | refine kl_step rfl rfl rfl fun K hK => ?_ | refine kl_step0 rfl rfl rfl fun K hK => ?_); go_simp; (try go_bits); (first | refine hK _ _ ?_ | refine hK _ ?_); clear hK K))
  have ho12 : (w11.alloc (.cells #[] 29)).ownsRow w11.heap.size 29 3 (.slice (some ⟨w11.heap.size, 0, none⟩) 0 0) 0 (flatK []) := World.ownsRow_made w11 #[] 0 (Nat.le_refl _) (by simp [maxLen]) rfl
  have hb12 : Below w11.heap.size w11 (w11.alloc (.cells #[] 29)) := (Below.refl _ _).alloc (Nat.le_refl _) _
  have hs12 := hb12.size
  have HK312 := Lib.hid (HK3b.out.keep (.of_below hb12))
  have HW3 : Hid (0 < n3 → ∀ a, A3 = some a → a.block < w11.heap.size) := fun h a e => HK3b.out.rw_.inQ h a e
  repeat (first | (first | refine kl_move rfl rfl (.inl rfl) rfl rfl ?_ | refine kl_move rfl rfl (.inr rfl) rfl rfl ?_ | refine kl_const rfl rfl (.inl rfl) rfl ?_ | refine kl_const rfl rfl (.inr rfl) rfl ?_))
  refine kl_appKS w11.heap.size _ 0 [] ho12 A3 n3 c3 t HK312.out H03.out (by omega) hs12 rfl rfl rfl rfl rfl rfl ?_
  intro v13 w13 ho13 hg13 hv13
  have hb13 := below_appendN hb12 hg13 ho12 hs12
  have hs13 : w11.heap.size ≤ w13.heap.size := hb13.size
  have hk13 : KeS w13 A3 n3 t := HK3b.out.keep (.of_below hb13)
  rw [Nat.zero_add, List.nil_append] at ho13
  clear ho12 hg13 hv13 hb12 hs12 HK312
  generalize w11.alloc (.cells #[] 29) = w12 at *
  repeat (first | (first | refine kl_move rfl rfl (.inl rfl) rfl rfl ?_ | refine kl_move rfl rfl (.inr rfl) rfl rfl ?_ | refine kl_const rfl rfl (.inl rfl) rfl ?_ | refine kl_const rfl rfl (.inr rfl) rfl ?_))
  refine kl_appKS w11.heap.size _ n3 t ho13 A3 n3 c3 t hk13 H03.out (by omega) hs13 rfl rfl rfl rfl rfl rfl ?_
  intro v14 w14 ho14 hg14 hv14
  have hb14 := below_appendN hb13 hg14 ho13 hs13
  obtain ⟨A6, c6, rfl, hk6, hn6, hc6, _, _⟩ := own_kes2 ho14 (by rw [List.length_append, HK3b.out.len])
  have HK6 := Lib.hid hk6
  have HC6 := Lib.hid (And.intro hn6 hc6)
  have HB14 := Lib.hid hb14
  clear ho13 hb13 hs13 hk13 ho14 hg14 hv14 hb14 hk6 hn6 hc6
  (first | ((first | refine kl_step rfl rfl rfl fun K hK => ?_ | refine kl_step0 rfl rfl rfl fun K hK => ?_); go_simp; (try go_bits); (first | refine hK _ _ ?_ | refine hK _ ?_); clear hK K))
  refine (show KL _ _ _ _ _ _ (w14.alloc (.cells #[.slice A3 n3 c3, .slice A5 n5 c5, .slice none 0 0, .slice A6 (n3 + n3) c6] 26)) from ?_)
  have hb15 : Below w11.heap.size w11 (w14.alloc (.cells #[.slice A3 n3 c3, .slice A5 n5 c5, .slice none 0 0, .slice A6 (n3 + n3) c6] 26)) := HB14.out.alloc HB14.out.size _
  have hbx : Below w14.heap.size w14 (w14.alloc (.cells #[.slice A3 n3 c3, .slice A5 n5 c5, .slice none 0 0, .slice A6 (n3 + n3) c6] 26)) := (Below.refl _ _).alloc (Nat.le_refl _) _
  have hr15 := rangeAt_new w14 #[.slice A3 n3 c3, .slice A5 n5 c5, .slice none 0 0, .slice A6 (n3 + n3) c6] 26 w14.heap.size rfl
  have HTS : Hid (KsOk t) := by show KsOk _; rw [← HT.out, ← HP.out.2]; exact takeP_ok HP.out.1 hzs.out.2
  have HK15 := Lib.hid (HK3b.out.keep (.of_below hb15))
  have hK5 := HK5.out.keep (.of_below hb15)
  have hK6 := HK6.out.keep (.of_below hbx)
  have HROWS : Hid (∀ i, i < 4 → ∃ l, RowAt (w14.alloc (.cells #[.slice A3 n3 c3, .slice A5 n5 c5, .slice none 0 0, .slice A6 (n3 + n3) c6] 26)) w14.heap.size i l) := fun i hi => by
    have hc := fun (u : Value) (h : (#[Value.slice A3 n3 c3, .slice A5 n5 c5, .slice none 0 0, .slice A6 (n3 + n3) c6].toList)[i]? = some u) => hr15 i u h
    simp only [Nat.zero_add] at hc
    match i, hi with
    | 0, _ => exact ⟨t, A3, n3, c3, hc _ rfl, HK15.out, by omega, HC3.out.1, HC3.out.2, HTS.out⟩
    | 1, _ => exact ⟨gk, A5, n5, c5, hc _ rfl, hK5, by omega, HC5.out.1, HC5.out.2, HGS.out⟩
    | 2, _ => exact ⟨[], none, 0, 0, hc _ rfl, (Rw.nil (E := kepE) _ _).kes, by omega, by omega, by omega, fun k hk => absurd hk (by simp)⟩
    | 3, _ => exact ⟨t ++ t, A6, n3 + n3, c6, hc _ rfl, hK6, by omega, HC6.out.1, HC6.out.2, ks_app HTS.out HTS.out⟩
  have HB15 := Lib.hid (below_then HB11.out hb15 HB11.out.size)
  have HP15 := Lib.hid (HP11.out.keep (.of_below hb15))
  have HQ15 := Lib.hid (HQ11.out.keep (.of_below hb15))
  have HV15 := Lib.hid (HV11.out.keep (.of_below hb15))
  clear hb15 hbx hr15 hK5 hK6 HK3b HK5 HB11 HP11 HQ11 HV11 HB14 HK6 HGS HW3
  generalize w14.heap.size = gR at *
  generalize w14.alloc (.cells #[.slice A3 n3 c3, .slice A5 n5 c5, .slice none 0 0, .slice A6 (n3 + n3) c6] 26) = w15 at *
  repeat (first | refine kw_seq ?_ | refine kw_region ?_ | refine kl_nil ?_ | refine kq_then ?_ | (first | refine kl_move rfl rfl (.inl rfl) rfl rfl ?_ | refine kl_move rfl rfl (.inr rfl) rfl rfl ?_ | refine kl_const rfl rfl (.inl rfl) rfl ?_ | refine kl_const rfl rfl (.inr rfl) rfl ?_))
  refine KW.less [9, 10, 11, 13, 14, 15] ?_
  simp only [nrm, lk, Nat.reduceBEq, cond_true, cond_false]
  have HRQ := Lib.hid (show ∀ c ∈ q, c.path.length ≤ 9223372036854775807 ∧ I64 c.kind from by rw [← HQ.out.2]; exact cell_paths HQ.out.1)
  have HRP := Lib.hid (show ∀ c ∈ p, c.path.length ≤ 9223372036854775807 ∧ I64 c.kind from by rw [← HP.out.2]; exact cell_paths HP.out.1)
  refine kw_cutf (fun L W => Hid (Below w15.heap.size w15 W) ∧ L = [(9, .slice A2 n2 c2), (11, .slice AV n2 cV), (13, .slice A3 n3 c3)]) ?_ ?_
  · intro Q'
    refine kw_block ?_
    refine kw_loop (fun mm L W => ∃ (i : Nat), i ≤ 4 ∧ mm = 4 - i ∧ Hid (Below w15.heap.size w15 W) ∧ L = [(9, .slice A2 n2 c2), (10, .slice B2 m2 d2), (11, .slice AV n2 cV), (13, .slice A3 n3 c3), (14, .slice (some ⟨gR, 0, none⟩) 4 4), (15, .int .i64 (i : Int))]) ⟨0, by omega, rfl, Below.refl _ _, rfl⟩ ?_
    rintro mm L W ⟨i, hi, rfl, hb, rfl⟩
    by_cases hlt : i < 4
    case neg =>
      have t1 : decide ((i : Int) < 4) = false := by rw [decide_eq_false_iff_not]; omega
      have t1n : decide (i < 4) = false := decide_eq_false hlt
      clear hlt hi
      repeat (first | refine kw_seq ?_ | refine kw_block ?_ | refine kw_region ?_ | refine kl_nil ?_ | refine kq_then ?_ | refine kq_block ?_ | refine kw_ift rfl ?_ | refine kw_iff rfl ?_ | refine kw_skip ?_ | refine kw_exit ?_ | refine kq_then_exit ?_ | refine kq_block_here rfl ?_ | refine kq_block_far rfl ?_ | refine kq_again_exit ?_ | refine kl_ung rfl rfl ?_ | refine kl_skipg rfl rfl rfl rfl ?_ | (first | refine kl_move rfl rfl (.inl rfl) rfl rfl ?_ | refine kl_move rfl rfl (.inr rfl) rfl rfl ?_ | refine kl_const rfl rfl (.inl rfl) rfl ?_ | refine kl_const rfl rfl (.inr rfl) rfl ?_) | ((first | refine kl_step rfl rfl rfl fun K hK => ?_ | refine kl_step0 rfl rfl rfl fun K hK => ?_); go_simp; (try go_bits); (first | refine hK _ _ ?_ | refine hK _ ?_); clear hK K))
      refine kq_cut [9, 11, 13] ?_
      exact ⟨hb, rfl⟩
    have t1 : decide ((i : Int) < 4) = true := by rw [decide_eq_true_eq]; omega
    have t1n : decide (i < 4) = true := decide_eq_true hlt
    obtain ⟨ni, hni⟩ : ∃ ni, i + 1 = ni := ⟨_, rfl⟩
    have i1 : (i : Int) + 1 = (ni : Int) := by omega
    have i2 : (0 : Int) ≤ ni := by omega
    have i3 : (ni : Int) ≤ 4 := by omega
    have i4 : (0 : Int) ≤ i := by omega
    have i5 : (i : Int) < 4 := by omega
    obtain ⟨l, A, n, c, hca', hka, hna', hnc, hcc, hks⟩ := HROWS.out i hlt
    have r1 : ∀ W, Below w15.heap.size w15 W → W.cell? ⟨gR, i, none⟩ = some (.slice A n c) := fun W h => Keeps.of_below h _ _ hca'
    have HI := Lib.hid (And.intro hni hlt)
    have HKA := Lib.hid hka
    have HKL := Lib.hid hks
    clear hlt hi hni hca' hka hks
    repeat (first | refine kw_seq ?_ | refine kw_block ?_ | refine kw_region ?_ | refine kl_nil ?_ | refine kq_then ?_ | refine kq_block ?_ | refine kw_ift rfl ?_ | refine kw_iff rfl ?_ | refine kw_skip ?_ | refine kl_ung rfl rfl ?_ | refine kl_skipg rfl rfl rfl rfl ?_ | (first | refine kl_move rfl rfl (.inl rfl) rfl rfl ?_ | refine kl_move rfl rfl (.inr rfl) rfl rfl ?_ | refine kl_const rfl rfl (.inl rfl) rfl ?_ | refine kl_const rfl rfl (.inr rfl) rfl ?_) | ((first | refine kl_step rfl rfl rfl fun K hK => ?_ | refine kl_step0 rfl rfl rfl fun K hK => ?_); go_simp; (try go_bits); (first | refine hK _ _ ?_ | refine hK _ ?_); clear hK K))
    have hR : Below w15.heap.size w15 W.drew := hb.out.drew
    refine kw_region_f (Below w15.heap.size w15) [true, true, true, true, true, false, true, true, true, true, true, false, true, true] (by kernel_rfl) (by kernel_rfl) hR ?_
    generalize W.drew = v0 at *
    clear t1 t1n hb
    repeat (first | refine kf_nil ?_ | refine kf_ung rfl rfl ?_ | refine kf_skipg rfl rfl rfl rfl ?_ | (first | refine kf_move rfl rfl (.inl rfl) rfl rfl ?_ | refine kf_move rfl rfl (.inr rfl) rfl rfl ?_ | refine kf_const rfl rfl (.inl rfl) rfl ?_ | refine kf_const rfl rfl (.inr rfl) rfl ?_) | (refine kf_val rfl rfl rfl ?_; apply Exists.intro; refine And.intro (fun W hW N hN => ?_) ?_; · (go_simp; (try go_bits); exact hN)))
    refine kf_ch ?_
    refine kl_call rfl rfl rfl Try.func33 rfl (by kernel_rfl) rfl ?_
    refine Calls.mono (give_any B2 m2 d2 q A n c l v0 (HQ15.out.keep (.of_below hR)) (by omega) (HKA.out.keep (.of_below hR)) (by omega) hnc hcc HKL.out HRQ.out) ?_
    rintro e v1 ⟨x1, rfl, hx1, hb1⟩
    refine ⟨_, rfl, ?_⟩
    replace hR := below_then hR hb1 hR.size
    obtain ⟨X1, e1, rfl, _, _, hX1, _⟩ := own_slice hx1
    refine kl_nil ?_
    refine kq_f hR ?_
    repeat (first | refine kf_nil ?_ | refine kf_ung rfl rfl ?_ | refine kf_skipg rfl rfl rfl rfl ?_ | (first | refine kf_move rfl rfl (.inl rfl) rfl rfl ?_ | refine kf_move rfl rfl (.inr rfl) rfl rfl ?_ | refine kf_const rfl rfl (.inl rfl) rfl ?_ | refine kf_const rfl rfl (.inr rfl) rfl ?_) | (refine kf_val rfl rfl rfl ?_; apply Exists.intro; refine And.intro (fun W hW N hN => ?_) ?_; · (go_simp; (try go_bits); exact hN)))
    refine kf_ch ?_
    refine kl_call rfl rfl rfl Try.func34 rfl (by kernel_rfl) rfl ?_
    refine Calls.mono (giveR_any B2 m2 d2 q A n c l v1 (HQ15.out.keep (.of_below hR)) (by omega) (HKA.out.keep (.of_below hR)) (by omega)) ?_
    rintro e v2 ⟨x2, rfl, hx2, hb2⟩
    refine ⟨_, rfl, ?_⟩
    replace hR := below_then hR hb2 hR.size
    obtain ⟨X2, e2, rfl, _, _, hX2, _⟩ := own_slice hx2
    have HX1 := Lib.hid (hX1.keep (.of_below hb2))
    have HX2 := Lib.hid hX2
    clear hx1 hb1 hX1 hx2 hb2 hX2
    refine kl_nil ?_
    refine kq_f hR ?_
    repeat (first | refine kf_nil ?_ | refine kf_ung rfl rfl ?_ | refine kf_skipg rfl rfl rfl rfl ?_ | (first | refine kf_move rfl rfl (.inl rfl) rfl rfl ?_ | refine kf_move rfl rfl (.inr rfl) rfl rfl ?_ | refine kf_const rfl rfl (.inl rfl) rfl ?_ | refine kf_const rfl rfl (.inr rfl) rfl ?_) | (refine kf_val rfl rfl rfl ?_; apply Exists.intro; refine And.intro (fun W hW N hN => ?_) ?_; · (go_simp; (try go_bits); exact hN)))
    clear r1
    have HBV := Lib.hid hR
    clear hR
    have l1 : ((m2 : Int) != (m2 : Int)) = false := by simp
    have l1n : (m2 != m2) = false := by simp
    have l2 : (m2 : Int) ≤ 9223372036854775807 := by omega
    repeat (first | refine kw_seq ?_ | refine kw_region ?_ | refine kl_nil ?_ | refine kq_then ?_ | refine kw_ift rfl ?_ | refine kw_iff rfl ?_ | refine kw_skip ?_ | refine kl_ung rfl rfl ?_ | refine kl_skipg rfl rfl rfl rfl ?_ | (first | refine kl_move rfl rfl (.inl rfl) rfl rfl ?_ | refine kl_move rfl rfl (.inr rfl) rfl rfl ?_ | refine kl_const rfl rfl (.inl rfl) rfl ?_ | refine kl_const rfl rfl (.inr rfl) rfl ?_) | ((first | refine kl_step rfl rfl rfl fun K hK => ?_ | refine kl_step0 rfl rfl rfl fun K hK => ?_); go_simp; (try go_bits); (first | refine hK _ _ ?_ | refine hK _ ?_); clear hK K))
    clear l1 l1n
    refine KW.less [9, 10, 11, 13, 14, 15, 16, 17, 18] ?_
    simp only [nrm, lk, Nat.reduceBEq, cond_true, cond_false]
    refine kw_block ?_
    refine kw_loop (fun mm L W => ∃ (j : Nat), j ≤ m2 ∧ mm = m2 - j ∧ Hid (Below v2.heap.size v2 W) ∧ L = [(9, .slice A2 n2 c2), (10, .slice B2 m2 d2), (11, .slice AV n2 cV), (13, .slice A3 n3 c3), (14, .slice (some ⟨gR, 0, none⟩) 4 4), (15, .int .i64 (i : Int)), (16, .slice X1 m2 e1), (17, .slice X2 m2 e2), (18, .int .i64 (j : Int))]) ⟨0, by omega, rfl, Below.refl _ _, rfl⟩ ?_
    rintro mm L W ⟨j, hj, rfl, hb, rfl⟩
    by_cases hlt : j < m2
    case neg =>
      have t1 : decide ((j : Int) < (m2 : Int)) = false := by rw [decide_eq_false_iff_not]; omega
      have t1n : decide (j < m2) = false := decide_eq_false hlt
      clear hlt hj
      have hb9 := Lib.hid (below_then HBV.out hb.out HBV.out.size)
      clear hb HX1 HX2 HBV
      repeat (first | refine kw_seq ?_ | refine kw_block ?_ | refine kw_region ?_ | refine kl_nil ?_ | refine kq_then ?_ | refine kq_block ?_ | refine kw_ift rfl ?_ | refine kw_iff rfl ?_ | refine kw_skip ?_ | refine kw_exit ?_ | refine kq_then_exit ?_ | refine kq_block_here rfl ?_ | refine kq_block_far rfl ?_ | refine kq_again_exit ?_ | refine kl_ung rfl rfl ?_ | refine kl_skipg rfl rfl rfl rfl ?_ | (first | refine kl_move rfl rfl (.inl rfl) rfl rfl ?_ | refine kl_move rfl rfl (.inr rfl) rfl rfl ?_ | refine kl_const rfl rfl (.inl rfl) rfl ?_ | refine kl_const rfl rfl (.inr rfl) rfl ?_) | ((first | refine kl_step rfl rfl rfl fun K hK => ?_ | refine kl_step0 rfl rfl rfl fun K hK => ?_); go_simp; (try go_bits); (first | refine hK _ _ ?_ | refine hK _ ?_); clear hK K))
      refine kq_again (4 - ni) [9, 10, 11, 13, 14, 15] (by have := HI.out; omega) ?_
      exact ⟨ni, by have := HI.out; omega, rfl, hb9, rfl⟩
    have t1 : decide ((j : Int) < (m2 : Int)) = true := by rw [decide_eq_true_eq]; omega
    have t1n : decide (j < m2) = true := decide_eq_true hlt
    obtain ⟨nj, hnj⟩ : ∃ nj, j + 1 = nj := ⟨_, rfl⟩
    have j1 : (j : Int) + 1 = (nj : Int) := by omega
    have j2 : (0 : Int) ≤ nj := by omega
    have j3 : (nj : Int) ≤ 80 := by omega
    have j4 : (0 : Int) ≤ j := by omega
    have j5 : (j : Int) < m2 := by omega
    obtain ⟨gq, oq, cq, rfl, hrq, _, hxq⟩ := HQ15.out.next hlt
    have hg : ((giveP q l).map (Value.int .i64))[j]? = some (.int .i64 (giveOne l cq)) := by
      rw [List.getElem?_map]; unfold giveP; rw [List.getElem?_map, hxq.out]; rfl
    obtain ⟨gz, hgz⟩ : ∃ gz, giveOne l cq = gz := ⟨_, rfl⟩
    rw [hgz] at hg
    obtain ⟨g1, o1, rfl, hc1⟩ := HX1.out.at_ hlt
    obtain ⟨g2, o2, rfl, hc2'⟩ := HX2.out.at_ hlt
    rw [(List.getElem?_eq_some_iff.1 hg).2] at hc1 hc2'
    have r1 : ∀ W, Below v2.heap.size v2 W → W.cell? ⟨g1, o1 + j, none⟩ = some (.int .i64 gz) := fun W h => Keeps.of_below h _ _ hc1
    have r2 : ∀ W, Below v2.heap.size v2 W → W.cell? ⟨g2, o2 + j, none⟩ = some (.int .i64 gz) := fun W h => Keeps.of_below h _ _ hc2'
    obtain ⟨rt, hrt⟩ : ∃ rt, cq.retain = rt := ⟨_, rfl⟩
    obtain ⟨iz, hiz⟩ : ∃ iz, cq.init = iz := ⟨_, rfl⟩
    have hq2 : v2.cell? ⟨gq, oq + j * 6 + 2, none⟩ = some (.bool rt) := by rw [← hrt]; exact Keeps.of_below HBV.out _ _ (hrq 2 _ rfl)
    have hq3 : v2.cell? ⟨gq, oq + j * 6 + 3, none⟩ = some (.int .i64 iz) := by rw [← hiz]; exact Keeps.of_below HBV.out _ _ (hrq 3 _ rfl)
    have r3 : ∀ W, Below v2.heap.size v2 W → W.cell? ⟨gq, oq + j * 6 + 2, none⟩ = some (.bool rt) := fun W h => Keeps.of_below h _ _ hq2
    have r4 : ∀ W, Below v2.heap.size v2 W → W.cell? ⟨gq, oq + j * 6 + 3, none⟩ = some (.int .i64 iz) := fun W h => Keeps.of_below h _ _ hq3
    have e0 := bne_self_i gz
    have HGZ : Hid (rt = false → gz = iz) := fun h => by rw [← hgz, ← hiz]; unfold giveOne; rw [hrt, h]; rfl
    have HJ := Lib.hid (And.intro hnj hlt)
    clear hlt hj hnj hrq hxq hg hgz hc1 hc2' hrt hiz hq2 hq3
    repeat (first | refine kw_seq ?_ | refine kw_block ?_ | refine kw_region ?_ | refine kl_nil ?_ | refine kq_then ?_ | refine kq_block ?_ | refine kw_ift rfl ?_ | refine kw_iff rfl ?_ | refine kw_skip ?_ | refine kl_ung rfl rfl ?_ | refine kl_skipg rfl rfl rfl rfl ?_ | (first | refine kl_move rfl rfl (.inl rfl) rfl rfl ?_ | refine kl_move rfl rfl (.inr rfl) rfl rfl ?_ | refine kl_const rfl rfl (.inl rfl) rfl ?_ | refine kl_const rfl rfl (.inr rfl) rfl ?_) | ((first | refine kl_step rfl rfl rfl fun K hK => ?_ | refine kl_step0 rfl rfl rfl fun K hK => ?_); go_simp; (try go_bits); (first | refine hK _ _ ?_ | refine hK _ ?_); clear hK K))
    have hR : Below v2.heap.size v2 W.drew := hb.out.drew
    refine kw_region_f (Below v2.heap.size v2) [true, true, true, true, true, true, true, true, true, true, true, true, true, true, true, true, true, true, true, true, true, true, true, true, true, true, true, true, true] (by kernel_rfl) (by kernel_rfl) hR ?_
    have HBD := Lib.hid hR
    clear hR hb t1 t1n
    generalize W.drew = v3 at *
    cases rt
    case false =>
      obtain rfl := HGZ.out rfl
      repeat (first | refine kf_nil ?_ | refine kf_ung rfl rfl ?_ | refine kf_skipg rfl rfl rfl rfl ?_ | (first | refine kf_move rfl rfl (.inl rfl) rfl rfl ?_ | refine kf_move rfl rfl (.inr rfl) rfl rfl ?_ | refine kf_const rfl rfl (.inl rfl) rfl ?_ | refine kf_const rfl rfl (.inr rfl) rfl ?_) | (refine kf_val rfl rfl rfl ?_; apply Exists.intro; refine And.intro (fun W hW N hN => ?_) ?_; · (go_simp; (try go_bits); exact hN)))
      clear r1 r2 r3 r4
      repeat (first | refine kw_seq ?_ | refine kw_block ?_ | refine kw_region ?_ | refine kl_nil ?_ | refine kq_then ?_ | refine kq_block ?_ | refine kw_ift rfl ?_ | refine kw_iff rfl ?_ | refine kw_skip ?_ | refine kl_ung rfl rfl ?_ | refine kl_skipg rfl rfl rfl rfl ?_ | (first | refine kl_move rfl rfl (.inl rfl) rfl rfl ?_ | refine kl_move rfl rfl (.inr rfl) rfl rfl ?_ | refine kl_const rfl rfl (.inl rfl) rfl ?_ | refine kl_const rfl rfl (.inr rfl) rfl ?_) | ((first | refine kl_step rfl rfl rfl fun K hK => ?_ | refine kl_step0 rfl rfl rfl fun K hK => ?_); go_simp; (try go_bits); (first | refine hK _ _ ?_ | refine hK _ ?_); clear hK K))
      refine kq_again (m2 - nj) [9, 10, 11, 13, 14, 15, 16, 17, 18] (by have := HJ.out; omega) ?_
      exact ⟨nj, by have := HJ.out; omega, rfl, HBD, rfl⟩
    repeat (first | refine kf_nil ?_ | refine kf_ung rfl rfl ?_ | refine kf_skipg rfl rfl rfl rfl ?_ | (first | refine kf_move rfl rfl (.inl rfl) rfl rfl ?_ | refine kf_move rfl rfl (.inr rfl) rfl rfl ?_ | refine kf_const rfl rfl (.inl rfl) rfl ?_ | refine kf_const rfl rfl (.inr rfl) rfl ?_) | (refine kf_val rfl rfl rfl ?_; apply Exists.intro; refine And.intro (fun W hW N hN => ?_) ?_; · (go_simp; (try go_bits); exact hN)))
    clear r1 r2 r3 r4
    repeat (first | refine kw_seq ?_ | refine kw_block ?_ | refine kw_region ?_ | refine kl_nil ?_ | refine kq_then ?_ | refine kq_block ?_ | refine kw_ift rfl ?_ | refine kw_iff rfl ?_ | refine kw_skip ?_ | refine kl_ung rfl rfl ?_ | refine kl_skipg rfl rfl rfl rfl ?_ | (first | refine kl_move rfl rfl (.inl rfl) rfl rfl ?_ | refine kl_move rfl rfl (.inr rfl) rfl rfl ?_ | refine kl_const rfl rfl (.inl rfl) rfl ?_ | refine kl_const rfl rfl (.inr rfl) rfl ?_) | ((first | refine kl_step rfl rfl rfl fun K hK => ?_ | refine kl_step0 rfl rfl rfl fun K hK => ?_); go_simp; (try go_bits); (first | refine hK _ _ ?_ | refine hK _ ?_); clear hK K))
    refine kq_again (m2 - nj) [9, 10, 11, 13, 14, 15, 16, 17, 18] (by have := HJ.out; omega) ?_
    exact ⟨nj, by have := HJ.out; omega, rfl, HBD, rfl⟩
  rintro L W ⟨hb, rfl⟩
  have HP16 := Lib.hid (HP15.out.keep (.of_below hb.out))
  have HV16 := Lib.hid (HV15.out.keep (.of_below hb.out))
  have HK16 := Lib.hid (HK15.out.keep (.of_below hb.out))
  have HB16 := Lib.hid (below_then HB15.out hb.out HB15.out.size)
  clear hb HQ15 HROWS HP15 HV15 HK15 HB15
  repeat (first | refine kw_seq ?_ | refine kw_region ?_ | refine kl_nil ?_ | refine kq_then ?_ | (first | refine kl_move rfl rfl (.inl rfl) rfl rfl ?_ | refine kl_move rfl rfl (.inr rfl) rfl rfl ?_ | refine kl_const rfl rfl (.inl rfl) rfl ?_ | refine kl_const rfl rfl (.inr rfl) rfl ?_))
  refine kl_call rfl rfl rfl Try.func33 rfl (by kernel_rfl) rfl ?_
  refine Calls.mono (give_any A2 n2 c2 p A3 n3 c3 t W HP16.out (by omega) HK16.out (by omega) HC3.out.1 HC3.out.2 HTS.out HRP.out) ?_
  rintro e v1 ⟨x1, rfl, hx1, hb1⟩
  refine ⟨_, rfl, ?_⟩
  obtain ⟨X1, e1, rfl, _, _, hX1, _⟩ := own_slice hx1
  have HX1 := Lib.hid hX1
  have HP17 := Lib.hid (HP16.out.keep (.of_below hb1))
  have HV17 := Lib.hid (HV16.out.keep (.of_below hb1))
  have HB17 := Lib.hid (below_then HB16.out hb1 HB16.out.size)
  clear hx1 hX1 hb1 HP16 HV16 HB16
  have hnd : (p.map (·.path)).Nodup := by rw [← HP.out.2]; exact cells_nodup HP.out.1
  have HND := Lib.hid hnd
  clear hnd
  repeat (first | refine kw_seq ?_ | refine kw_region ?_ | refine kl_nil ?_ | refine kq_then ?_ | (first | refine kl_move rfl rfl (.inl rfl) rfl rfl ?_ | refine kl_move rfl rfl (.inr rfl) rfl rfl ?_ | refine kl_const rfl rfl (.inl rfl) rfl ?_ | refine kl_const rfl rfl (.inr rfl) rfl ?_))
  refine KW.less [9, 11, 19, 20] ?_
  simp only [nrm, lk, Nat.reduceBEq, cond_true, cond_false]
  refine kw_cutf (fun L W => Hid (Below w.heap.size w W) ∧ L = []) ?_ ?_
  · intro Q'
    refine kw_block ?_
    refine kw_loop (fun mm L W => ∃ (j : Nat), j ≤ n2 ∧ mm = n2 - j ∧ Hid (Below v1.heap.size v1 W) ∧ L = [(9, .slice A2 n2 c2), (11, .slice AV n2 cV), (19, .slice X1 n2 e1), (20, .int .i64 (j : Int))]) ⟨0, by omega, rfl, Below.refl _ _, rfl⟩ ?_
    rintro mm L W ⟨j, hj, rfl, hb, rfl⟩
    have l2 : (n2 : Int) ≤ 9223372036854775807 := by omega
    by_cases hlt : j < n2
    case neg =>
      have t1 : decide ((j : Int) < (n2 : Int)) = false := by rw [decide_eq_false_iff_not]; omega
      have t1n : decide (j < n2) = false := decide_eq_false hlt
      clear hlt hj
      repeat (first | refine kw_seq ?_ | refine kw_block ?_ | refine kw_region ?_ | refine kl_nil ?_ | refine kq_then ?_ | refine kq_block ?_ | refine kw_ift rfl ?_ | refine kw_iff rfl ?_ | refine kw_skip ?_ | refine kw_exit ?_ | refine kq_then_exit ?_ | refine kq_block_here rfl ?_ | refine kq_block_far rfl ?_ | refine kq_again_exit ?_ | refine kl_ung rfl rfl ?_ | refine kl_skipg rfl rfl rfl rfl ?_ | (first | refine kl_move rfl rfl (.inl rfl) rfl rfl ?_ | refine kl_move rfl rfl (.inr rfl) rfl rfl ?_ | refine kl_const rfl rfl (.inl rfl) rfl ?_ | refine kl_const rfl rfl (.inr rfl) rfl ?_) | ((first | refine kl_step rfl rfl rfl fun K hK => ?_ | refine kl_step0 rfl rfl rfl fun K hK => ?_); go_simp; (try go_bits); (first | refine hK _ _ ?_ | refine hK _ ?_); clear hK K))
      refine kq_cut [] ?_
      exact ⟨below_then HB17.out hb.out HB17.out.size, rfl⟩
    have t1 : decide ((j : Int) < (n2 : Int)) = true := by rw [decide_eq_true_eq]; omega
    have t1n : decide (j < n2) = true := decide_eq_true hlt
    obtain ⟨nj, hnj⟩ : ∃ nj, j + 1 = nj := ⟨_, rfl⟩
    have j1 : (j : Int) + 1 = (nj : Int) := by omega
    have j2 : (0 : Int) ≤ nj := by omega
    have j3 : (nj : Int) ≤ 80 := by omega
    have j4 : (0 : Int) ≤ j := by omega
    have j5 : (j : Int) < n2 := by omega
    obtain ⟨gq, oq, cq, rfl, hrq, _, hxq⟩ := HP17.out.next hlt
    have hg : ((giveP p t).map (Value.int .i64))[j]? = some (.int .i64 (giveOne t cq)) := by
      rw [List.getElem?_map]; unfold giveP; rw [List.getElem?_map, hxq.out]; rfl
    obtain ⟨gz, hgz⟩ : ∃ gz, giveOne t cq = gz := ⟨_, rfl⟩
    rw [hgz] at hg
    obtain ⟨g1, o1, rfl, hc1⟩ := HX1.out.at_ hlt
    obtain ⟨g2, o2, rfl, hc2'⟩ := HV17.out.at_ hlt
    rw [(List.getElem?_eq_some_iff.1 hg).2] at hc1
    obtain ⟨vz, hvz⟩ : ∃ vz, zs[j]? = some vz := ⟨_, List.getElem?_eq_getElem (by rw [hzs.out.1]; exact hlt)⟩
    rw [List.getElem_map, (List.getElem?_eq_some_iff.1 hvz).2] at hc2'
    have r1 : ∀ W, Below v1.heap.size v1 W → W.cell? ⟨g1, o1 + j, none⟩ = some (.int .i64 gz) := fun W h => Keeps.of_below h _ _ hc1
    have r2 : ∀ W, Below v1.heap.size v1 W → W.cell? ⟨g2, o2 + j, none⟩ = some (.int .i64 vz) := fun W h => Keeps.of_below h _ _ hc2'
    obtain ⟨rt, hrt⟩ : ∃ rt, cq.retain = rt := ⟨_, rfl⟩
    have hq2 : v1.cell? ⟨gq, oq + j * 6 + 2, none⟩ = some (.bool rt) := by rw [← hrt]; exact hrq 2 _ rfl
    have r3 : ∀ W, Below v1.heap.size v1 W → W.cell? ⟨gq, oq + j * 6 + 2, none⟩ = some (.bool rt) := fun W h => Keeps.of_below h _ _ hq2
    have HGZ : Hid (rt = true → gz = vz) := fun h => by rw [← hgz, ← HT.out]; exact give_back HND.out hxq.out hvz (by rw [hrt, h])
    have HJ := Lib.hid (And.intro hnj hlt)
    clear hlt hj hnj hrq hxq hg hgz hc1 hc2' hvz hrt hq2
    repeat (first | refine kw_seq ?_ | refine kw_block ?_ | refine kw_region ?_ | refine kl_nil ?_ | refine kq_then ?_ | refine kq_block ?_ | refine kw_ift rfl ?_ | refine kw_iff rfl ?_ | refine kw_skip ?_ | refine kl_ung rfl rfl ?_ | refine kl_skipg rfl rfl rfl rfl ?_ | (first | refine kl_move rfl rfl (.inl rfl) rfl rfl ?_ | refine kl_move rfl rfl (.inr rfl) rfl rfl ?_ | refine kl_const rfl rfl (.inl rfl) rfl ?_ | refine kl_const rfl rfl (.inr rfl) rfl ?_) | ((first | refine kl_step rfl rfl rfl fun K hK => ?_ | refine kl_step0 rfl rfl rfl fun K hK => ?_); go_simp; (try go_bits); (first | refine hK _ _ ?_ | refine hK _ ?_); clear hK K))
    have hR : Below v1.heap.size v1 W.drew := hb.out.drew
    refine kw_region_f (Below v1.heap.size v1) [true, true, true, true, true, true, true, true, true, true, true, true, true, true, true, true] (by kernel_rfl) (by kernel_rfl) hR ?_
    have HBD := Lib.hid hR
    clear hR hb t1 t1n
    generalize W.drew = v3 at *
    cases rt
    case true =>
      obtain rfl := HGZ.out rfl
      have e0 := bne_self_i gz
      repeat (first | refine kf_nil ?_ | refine kf_ung rfl rfl ?_ | refine kf_skipg rfl rfl rfl rfl ?_ | (first | refine kf_move rfl rfl (.inl rfl) rfl rfl ?_ | refine kf_move rfl rfl (.inr rfl) rfl rfl ?_ | refine kf_const rfl rfl (.inl rfl) rfl ?_ | refine kf_const rfl rfl (.inr rfl) rfl ?_) | (refine kf_val rfl rfl rfl ?_; apply Exists.intro; refine And.intro (fun W hW N hN => ?_) ?_; · (go_simp; (try go_bits); exact hN)))
      clear r1 r2 r3
      repeat (first | refine kw_seq ?_ | refine kw_block ?_ | refine kw_region ?_ | refine kl_nil ?_ | refine kq_then ?_ | refine kq_block ?_ | refine kw_ift rfl ?_ | refine kw_iff rfl ?_ | refine kw_skip ?_ | refine kl_ung rfl rfl ?_ | refine kl_skipg rfl rfl rfl rfl ?_ | (first | refine kl_move rfl rfl (.inl rfl) rfl rfl ?_ | refine kl_move rfl rfl (.inr rfl) rfl rfl ?_ | refine kl_const rfl rfl (.inl rfl) rfl ?_ | refine kl_const rfl rfl (.inr rfl) rfl ?_) | ((first | refine kl_step rfl rfl rfl fun K hK => ?_ | refine kl_step0 rfl rfl rfl fun K hK => ?_); go_simp; (try go_bits); (first | refine hK _ _ ?_ | refine hK _ ?_); clear hK K))
      refine kq_again (n2 - nj) [9, 11, 19, 20] (by have := HJ.out; omega) ?_
      exact ⟨nj, by have := HJ.out; omega, rfl, HBD, rfl⟩
    repeat (first | refine kf_nil ?_ | refine kf_ung rfl rfl ?_ | refine kf_skipg rfl rfl rfl rfl ?_ | (first | refine kf_move rfl rfl (.inl rfl) rfl rfl ?_ | refine kf_move rfl rfl (.inr rfl) rfl rfl ?_ | refine kf_const rfl rfl (.inl rfl) rfl ?_ | refine kf_const rfl rfl (.inr rfl) rfl ?_) | (refine kf_val rfl rfl rfl ?_; apply Exists.intro; refine And.intro (fun W hW N hN => ?_) ?_; · (go_simp; (try go_bits); exact hN)))
    clear r1 r2 r3
    repeat (first | refine kw_seq ?_ | refine kw_block ?_ | refine kw_region ?_ | refine kl_nil ?_ | refine kq_then ?_ | refine kq_block ?_ | refine kw_ift rfl ?_ | refine kw_iff rfl ?_ | refine kw_skip ?_ | refine kl_ung rfl rfl ?_ | refine kl_skipg rfl rfl rfl rfl ?_ | (first | refine kl_move rfl rfl (.inl rfl) rfl rfl ?_ | refine kl_move rfl rfl (.inr rfl) rfl rfl ?_ | refine kl_const rfl rfl (.inl rfl) rfl ?_ | refine kl_const rfl rfl (.inr rfl) rfl ?_) | ((first | refine kl_step rfl rfl rfl fun K hK => ?_ | refine kl_step0 rfl rfl rfl fun K hK => ?_); go_simp; (try go_bits); (first | refine hK _ _ ?_ | refine hK _ ?_); clear hK K))
    refine kq_again (n2 - nj) [9, 11, 19, 20] (by have := HJ.out; omega) ?_
    exact ⟨nj, by have := HJ.out; omega, rfl, HBD, rfl⟩
  rintro L W ⟨hb, rfl⟩
  repeat (first | refine kw_seq ?_ | refine kw_block ?_ | refine kw_skip ?_ | refine kw_region ?_ | refine kl_nil ?_ | refine kq_then ?_ | refine kq_block ?_ | refine kw_exit ?_ | refine kq_then_exit ?_ | refine kq_block_here rfl ?_ | refine kq_block_far rfl ?_ | refine kq_again_exit ?_ | refine kw_ret ?_ | refine kq_then_ret ?_ | refine kq_block_ret ?_ | refine kq_again_ret ?_ | refine kw_ift rfl ?_ | refine kw_iff rfl ?_ | refine kl_ung rfl rfl ?_ | refine kl_skipg rfl rfl rfl rfl ?_ | refine kl_skipg0 rfl rfl rfl ?_ | (first | refine kl_move rfl rfl (.inl rfl) rfl rfl ?_ | refine kl_move rfl rfl (.inr rfl) rfl rfl ?_ | refine kl_const rfl rfl (.inl rfl) rfl ?_ | refine kl_const rfl rfl (.inr rfl) rfl ?_) | ((first | refine kl_step rfl rfl rfl fun K hK => ?_ | refine kl_step0 rfl rfl rfl fun K hK => ?_); go_simp; (try go_bits); (first | refine hK _ _ ?_ | refine hK _ ?_); clear hK K))
  exact kq_ret1 rfl rfl ⟨rfl, hb.out⟩
end Go.Proofs.Ytcpifcdndhhmgaa
