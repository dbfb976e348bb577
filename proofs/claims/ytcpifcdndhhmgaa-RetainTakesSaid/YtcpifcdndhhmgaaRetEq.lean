/- == on what is kept; the law's same. -/
import Derived.Test.YtcpifcdndhhmgaaRow
import Derived.Test.YtcpifcdndhhmgaaKnF
import Derived.Test.YtcpifcdndhhmgaaRetRd
import Derived.DeepKeys
set_option linter.unusedVariables false
set_option linter.unusedSimpArgs false
namespace Go.Proofs.Ytcpifcdndhhmgaa
open Go.RowKit
attribute [local go_sem] ev_tmp ev_const ev_func ev_global lk_hit lk_miss uponK_value uponK_skip look_tmp look_const look_global look_func valP_value
def eqK (a b : KepS) : Bool := a.path == b.path && (a.kind == b.kind && a.value == b.value)
theorem eqK_iff (a b : KepS) : eqK a b = true ↔ a = b := by
  constructor
  · intro h
    simp only [eqK, Bool.and_eq_true, beq_iff_eq] at h
    exact KepS.ext' h.1 h.2.1 h.2.2
  · rintro rfl; simp [eqK]
theorem fieldsOf_of {P : Program} {t : TypeId} {fs : Array Field} (h : P.underlying t = some (.struct fs)) : P.fieldsOf t = fs := by unfold Program.fieldsOf; rw [h]
theorem partK_0 (w : World) (a : KepS) : (part 9 (kepC a).toArray 0).run Try.prog w = .ok (.string ⟨a.path.toArray⟩) w := by
  simp [part, isAgg, run_underlying Try.underlying9, kepC]
theorem partK_1 (w : World) (a : KepS) : (part 3 (kepC a).toArray 1).run Try.prog w = .ok (.int .i64 a.kind) w := by
  simp [part, isAgg, run_underlying Try.underlying3, kepC]
theorem partK_2 (w : World) (a : KepS) : (part 3 (kepC a).toArray 2).run Try.prog w = .ok (.int .i64 a.value) w := by
  simp [part, isAgg, run_underlying Try.underlying3, kepC]
theorem toList_mk (l : List UInt8) : (⟨l.toArray⟩ : ByteArray).toList = l := by rw [ByteArray.toList_eq]
set_option maxRecDepth 100000 in
theorem eqKept (w : World) (a b : KepS) : (Op.equalIn 10000 29 (.agg (kepC a).toArray) (.agg (kepC b).toArray)).run Try.prog w = .ok (eqK a b) w := by
  have hf := fieldsOf_of Try.underlying29
  have hu : Try.prog.underlying 29 = some (.struct (Try.prog.fieldsOf 29)) := by rw [hf]; exact Try.underlying29
  rw [run_equalIn_struct w 9999 29 _ _ hu (by kernel_rfl), hf]
  have e0 := fun W (x y : Int) => run_equalIn_int (P := Try.prog) W 9998 3 .i64 .i64 x y Try.underlying3
  have e1 := fun W (x y : ByteArray) => run_equalIn_string (P := Try.prog) W 9998 9 x y Try.underlying9
  simp only [Op.eqFields, Sem.run_bind, Sem.run_ite, partK_0, partK_1, partK_2, Result.andThen_ok, e0, e1, toList_mk]
  unfold eqK
  cases a.path == b.path <;> cases a.kind == b.kind <;> cases a.value == b.value <;> simp
def eqKs (l m : List KepS) : Bool := l.length == m.length && (List.range l.length).all fun i => eqK (l.getD i kepZ) (m.getD i kepZ)
theorem eqKs_iff (l m : List KepS) : eqKs l m = true ↔ l = m := by
  unfold eqKs
  rw [Bool.and_eq_true, beq_iff_eq, List.all_eq_true]
  constructor
  · rintro ⟨h1, h2⟩
    apply List.ext_getElem h1
    intro i hi hi'
    have := (eqK_iff _ _).1 (h2 i (List.mem_range.2 hi))
    rw [List.getD_eq_getElem?_getD, List.getD_eq_getElem?_getD, List.getElem?_eq_getElem hi, List.getElem?_eq_getElem hi'] at this
    exact this
  · rintro rfl
    exact ⟨rfl, fun i _ => (eqK_iff _ _).2 rfl⟩
theorem eqKs_self (l : List KepS) : eqKs l l = true := (eqKs_iff l l).2 rfl
theorem eqKs_len (l m : List KepS) (h : l.length ≠ m.length) : eqKs l m = false := by
  rw [Bool.eq_false_iff]; intro h2; exact h (by rw [(eqKs_iff l m).1 h2])
theorem eqKs_at (l m : List KepS) (i : Nat) (a b : KepS) (ha : l[i]? = some a) (hb : m[i]? = some b) (h : eqK a b = false) : eqKs l m = false := by
  rw [Bool.eq_false_iff]
  intro h2
  have := (eqKs_iff l m).1 h2
  subst this
  rw [ha] at hb
  injection hb with hb
  subst hb
  rw [(eqK_iff a a).2 rfl] at h; cases h
set_option maxRecDepth 100000 in
set_option maxHeartbeats 2000000 in
theorem same16_any (A B : Option Addr) (n c m d : Nat) (l k : List KepS) (w : World) (hA : KeS w A n l) (hB : KeS w B m k) (hn : n ≤ 1099511627776) (hm : m ≤ 1099511627776) : Calls Try.prog 13 #[.slice A n c, .slice B m d] w fun e w' => e = .returned (.bool (eqKs l k)) ∧ Below w.heap.size w w' := by
  have HL := Lib.hid (And.intro hA.len hB.len)
  refine calls_kw Try.func13 rfl Try.ntmps13 rfl [(0, .slice A n c), (1, .slice B m d)] rfl ?_
  by_cases hnm : n = m
  case neg =>
    have t1 : ((n : Int) != (m : Int)) = true := by rw [bne_iff_ne]; omega
    have t1n : (n != m) = true := by rw [bne_iff_ne]; exact hnm
    have HE := Lib.hid (eqKs_len l k (by rw [HL.out.1, HL.out.2]; exact hnm))
    clear hnm
    repeat (first | refine kw_seq ?_ | refine kw_block ?_ | refine kw_skip ?_ | refine kw_region ?_ | refine kl_nil ?_ | refine kq_then ?_ | refine kq_block ?_ | refine kw_exit ?_ | refine kq_then_exit ?_ | refine kq_block_here rfl ?_ | refine kq_block_far rfl ?_ | refine kq_again_exit ?_ | refine kw_ret ?_ | refine kq_then_ret ?_ | refine kq_block_ret ?_ | refine kq_again_ret ?_ | refine kw_ift rfl ?_ | refine kw_iff rfl ?_ | refine kl_ung rfl rfl ?_ | refine kl_skipg rfl rfl rfl rfl ?_ | refine kl_skipg0 rfl rfl rfl ?_ | (first | refine kl_move rfl rfl (.inl rfl) rfl rfl ?_ | refine kl_move rfl rfl (.inr rfl) rfl rfl ?_ | refine kl_const rfl rfl (.inl rfl) rfl ?_ | refine kl_const rfl rfl (.inr rfl) rfl ?_) | ((first | refine kl_step rfl rfl rfl fun K hK => ?_ | refine kl_step0 rfl rfl rfl fun K hK => ?_); go_simp; (try go_bits); (first | refine hK _ _ ?_ | refine hK _ ?_); clear hK K))
    exact kq_ret1 rfl rfl ⟨by rw [HE.out], Below.refl _ _⟩
  subst hnm
  have t1 : ((n : Int) != (n : Int)) = false := by simp
  have t1n : (n != n) = false := by simp
  repeat (first | refine kw_seq ?_ | refine kw_region ?_ | refine kl_nil ?_ | refine kq_then ?_ | refine kw_iff rfl ?_ | refine kw_skip ?_ | (first | refine kl_move rfl rfl (.inl rfl) rfl rfl ?_ | refine kl_move rfl rfl (.inr rfl) rfl rfl ?_ | refine kl_const rfl rfl (.inl rfl) rfl ?_ | refine kl_const rfl rfl (.inr rfl) rfl ?_) | ((first | refine kl_step rfl rfl rfl fun K hK => ?_ | refine kl_step0 rfl rfl rfl fun K hK => ?_); go_simp; (try go_bits); (first | refine hK _ _ ?_ | refine hK _ ?_); clear hK K))
  refine KW.less [0, 1, 5] ?_
  simp only [nrm, lk, Nat.reduceBEq, cond_true, cond_false]
  refine kw_block ?_
  refine kw_loop (fun mm L W => ∃ i, i ≤ n ∧ mm = n - i ∧ Hid (Below w.heap.size w W) ∧ Hid (l.take i = k.take i) ∧ L = [(0, .slice A n c), (1, .slice B n d), (5, .int .i64 (i : Int))]) ⟨0, by omega, rfl, Below.refl _ _, rfl, rfl⟩ ?_
  clear t1 t1n
  rintro mm L W ⟨i, hi, rfl, hb, htk, rfl⟩
  by_cases hlt : i < n
  case neg =>
    obtain rfl : i = n := by omega
    have t1 : decide ((i : Int) < (i : Int)) = false := by simp
    have t1n : decide (i < i) = false := by simp
    have HE : Hid (eqKs l k = true) := by
      have := htk.out
      rw [List.take_of_length_le (by rw [HL.out.1]; exact Nat.le_refl _), List.take_of_length_le (by rw [HL.out.2]; exact Nat.le_refl _)] at this
      exact (eqKs_iff _ _).2 this
    clear hlt hi htk
    repeat (first | refine kw_seq ?_ | refine kw_block ?_ | refine kw_skip ?_ | refine kw_region ?_ | refine kl_nil ?_ | refine kq_then ?_ | refine kq_block ?_ | refine kw_exit ?_ | refine kq_then_exit ?_ | refine kq_block_here rfl ?_ | refine kq_block_far rfl ?_ | refine kq_again_exit ?_ | refine kw_ret ?_ | refine kq_then_ret ?_ | refine kq_block_ret ?_ | refine kq_again_ret ?_ | refine kw_ift rfl ?_ | refine kw_iff rfl ?_ | refine kl_ung rfl rfl ?_ | refine kl_skipg rfl rfl rfl rfl ?_ | refine kl_skipg0 rfl rfl rfl ?_ | (first | refine kl_move rfl rfl (.inl rfl) rfl rfl ?_ | refine kl_move rfl rfl (.inr rfl) rfl rfl ?_ | refine kl_const rfl rfl (.inl rfl) rfl ?_ | refine kl_const rfl rfl (.inr rfl) rfl ?_) | ((first | refine kl_step rfl rfl rfl fun K hK => ?_ | refine kl_step0 rfl rfl rfl fun K hK => ?_); go_simp; (try go_bits); (first | refine hK _ _ ?_ | refine hK _ ?_); clear hK K))
    exact kq_ret1 rfl rfl ⟨by rw [HE.out], hb.out⟩
  have t1 : decide ((i : Int) < (n : Int)) = true := by rw [decide_eq_true_eq]; omega
  have t1n : decide (i < n) = true := decide_eq_true hlt
  have u0 : (0 : Int) ≤ i := by omega
  have u1 : (i : Int) < n := by omega
  obtain ⟨i1, hi1⟩ : ∃ i1, i + 1 = i1 := ⟨_, rfl⟩
  have i3 : (i : Int) + 1 = (i1 : Int) := by omega
  have i4 : (0 : Int) ≤ i1 := by omega
  have i5 : (i1 : Int) ≤ 1099511627777 := by omega
  obtain ⟨gA, oA, p, rfl, hra, hxa, hga⟩ := hA.next hlt
  obtain ⟨gB, oB, q, rfl, hrb, hxb, hgb⟩ := hB.next hlt
  obtain ⟨oi, hoi⟩ : ∃ oi, oA + i * 3 = oi := ⟨_, rfl⟩
  obtain ⟨oj, hoj⟩ : ∃ oj, oB + i * 3 = oj := ⟨_, rfl⟩
  rw [hoi] at hra
  rw [hoj] at hrb
  have HA := Lib.hid hra
  have HB := Lib.hid hrb
  have ca : ∀ W, Below w.heap.size w W → W.rangeAt gA oi (kepC p) := fun W h j u hu => Keeps.of_below h _ _ (HA.out j u hu)
  have cb : ∀ W, Below w.heap.size w W → W.rangeAt gB oj (kepC q) := fun W h j u hu => Keeps.of_below h _ _ (HB.out j u hu)
  have hCA := Lib.hid ca
  have hCB := Lib.hid cb
  have HI := Lib.hid (And.intro hi1 hlt)
  have he : ∀ W, (Op.equalIn 10000 29 (.agg (kepC p).toArray) (.agg (kepC q).toArray)).run Try.prog W = .ok (eqK p q) W := fun W => eqKept W p q
  clear hra hrb ca cb hi1 hlt hi
  repeat (first | refine kw_seq ?_ | refine kw_region ?_ | refine kl_nil ?_ | refine kq_then ?_ | refine kw_ift rfl ?_ | refine kw_skip ?_ | (first | refine kl_move rfl rfl (.inl rfl) rfl rfl ?_ | refine kl_move rfl rfl (.inr rfl) rfl rfl ?_ | refine kl_const rfl rfl (.inl rfl) rfl ?_ | refine kl_const rfl rfl (.inr rfl) rfl ?_) | ((first | refine kl_step rfl rfl rfl fun K hK => ?_ | refine kl_step0 rfl rfl rfl fun K hK => ?_); go_simp; (try go_bits); (first | refine hK _ _ ?_ | refine hK _ ?_); clear hK K))
  refine kw_block ?_
  refine kw_seq ?_
  have hR : Below w.heap.size w W.drew := below_then hb.out ((Below.refl _ _).drew) hb.out.size
  clear hb
  refine kw_region_f (Below w.heap.size w) [true, true, true, true, true, true, true, true, true] (by kernel_rfl) (by kernel_rfl) hR ?_
  generalize W.drew = w4 at *
  have HB4 := Lib.hid hR
  obtain ⟨bb, hbb⟩ : ∃ bb, eqK p q = bb := ⟨_, rfl⟩
  rw [hbb] at he
  have HBB := Lib.hid hbb
  clear hbb
  repeat (first | refine kf_nil ?_ | refine kf_ung rfl rfl ?_ | refine kf_skipg rfl rfl rfl rfl ?_ | refine kf_load_mid (b := gA) (off := oi) (cs := kepC p) hCA.out Try.underlying29 rfl (kepInfoL p) rfl rfl rfl rfl rfl ?_ | refine kf_load_mid (b := gB) (off := oj) (cs := kepC q) hCB.out Try.underlying29 rfl (kepInfoL q) rfl rfl rfl rfl rfl ?_ | (first | refine kf_move rfl rfl (.inl rfl) rfl rfl ?_ | refine kf_move rfl rfl (.inr rfl) rfl rfl ?_ | refine kf_const rfl rfl (.inl rfl) rfl ?_ | refine kf_const rfl rfl (.inr rfl) rfl ?_) | (refine kf_val rfl rfl rfl ?_; apply Exists.intro; refine And.intro (fun W hW N hN => ?_) ?_; · (go_simp; (try go_bits); exact hN)))
  clear he hR
  cases bb
  case false =>
    have HE := Lib.hid (eqKs_at l k i p q hga.out hgb.out HBB.out)
    repeat (first | refine kw_seq ?_ | refine kw_block ?_ | refine kw_skip ?_ | refine kw_region ?_ | refine kl_nil ?_ | refine kq_then ?_ | refine kq_block ?_ | refine kw_exit ?_ | refine kq_then_exit ?_ | refine kq_block_here rfl ?_ | refine kq_block_far rfl ?_ | refine kq_again_exit ?_ | refine kw_ret ?_ | refine kq_then_ret ?_ | refine kq_block_ret ?_ | refine kq_again_ret ?_ | refine kw_ift rfl ?_ | refine kw_iff rfl ?_ | refine kl_ung rfl rfl ?_ | refine kl_skipg rfl rfl rfl rfl ?_ | refine kl_skipg0 rfl rfl rfl ?_ | (first | refine kl_move rfl rfl (.inl rfl) rfl rfl ?_ | refine kl_move rfl rfl (.inr rfl) rfl rfl ?_ | refine kl_const rfl rfl (.inl rfl) rfl ?_ | refine kl_const rfl rfl (.inr rfl) rfl ?_) | ((first | refine kl_step rfl rfl rfl fun K hK => ?_ | refine kl_step0 rfl rfl rfl fun K hK => ?_); go_simp; (try go_bits); (first | refine hK _ _ ?_ | refine hK _ ?_); clear hK K))
    exact kq_ret1 rfl rfl ⟨by rw [HE.out], HB4.out⟩
  have HT : Hid (l.take i1 = k.take i1) := by
    show _ = _
    rw [← HI.out.1, hxa.out, hxb.out, htk.out, (eqK_iff _ _).1 HBB.out]
  repeat (first | refine kw_seq ?_ | refine kw_region ?_ | refine kl_nil ?_ | refine kq_then ?_ | refine kq_block ?_ | refine kw_iff rfl ?_ | refine kw_skip ?_ | (first | refine kl_move rfl rfl (.inl rfl) rfl rfl ?_ | refine kl_move rfl rfl (.inr rfl) rfl rfl ?_ | refine kl_const rfl rfl (.inl rfl) rfl ?_ | refine kl_const rfl rfl (.inr rfl) rfl ?_) | ((first | refine kl_step rfl rfl rfl fun K hK => ?_ | refine kl_step0 rfl rfl rfl fun K hK => ?_); go_simp; (try go_bits); (first | refine hK _ _ ?_ | refine hK _ ?_); clear hK K))
  refine kq_again (n - i1) [0, 1, 5] (by have := HI.out; omega) ?_
  exact ⟨i1, by have := HI.out; omega, rfl, HB4, HT, rfl⟩
end Go.Proofs.Ytcpifcdndhhmgaa
