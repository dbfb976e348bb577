/- Fields and sizes of types. -/
import Derived.Test.YtcpifcdndhhmgaaTakSmall
set_option linter.unusedVariables false
set_option linter.unusedSimpArgs false
namespace Go.Proofs.Ytcpifcdndhhmgaa
open Go.RowKit
attribute [local go_sem] ev_tmp ev_const ev_func ev_global lk_hit lk_miss uponK_value uponK_skip look_tmp look_const look_global look_func valP_value
def tonF : List FldV := [⟨[73, 78], 1⟩, ⟨[80, 84], 6⟩, ⟨[81], 1⟩, ⟨[69, 84], 6⟩, ⟨[84, 48], 6⟩, ⟨[82, 85, 78], 1⟩]
def ctuF : List FldV := [⟨[67, 85], 1⟩, ⟨[82], 1⟩, ⟨[80, 86], 5⟩, ⟨[81], 1⟩, ⟨[67, 86], 5⟩, ⟨[79, 76, 68], 1⟩]
def fieldsP (t : TypV) : List FldV := if t.kind = 8 then t.fields else if t.kind = 9 then tonF else if t.kind = 10 then ctuF else []
def sizeP (t : TypV) : Int := if 1 ≤ t.kind ∧ t.kind ≤ 6 then 1 else if t.kind = 7 then t.n else ((fieldsP t).length : Int)
theorem rw_new {α : Type} (E : Enc α) (W : World) (l : List α) (cs : Array Value) (t : TypeId) (h : cs = (flatR E l).toArray) : Rw E (W.alloc (.cells cs t)) (some ⟨W.heap.size, 0, none⟩) l.length l :=
  ⟨rfl, fun _ => ⟨W.heap.size, 0, rfl, fun i p hp j u hu => by
    have h1 := flatR_at E l i p hp j u hu
    have h2 := rangeAt_new W cs t W.heap.size rfl
    rw [h] at h2
    have h3 := h2 (i * E.size + j) u (by simpa using h1)
    rw [h, Nat.zero_add]
    rw [Nat.zero_add] at h3
    exact h3⟩⟩
set_option maxRecDepth 100000 in
set_option maxHeartbeats 1000000 in
theorem fields7_any (t : TypV) (FA : Option Addr) (fn fc : Nat) (w : World) (hT : TypM w t FA fn fc) (hf : t.kind = 8 → 0 < fn) (hfn : fn ≤ 1048576) :
    Calls Try.prog 75 #[.agg (typC t FA fn fc).toArray] w fun e w' => ∃ A n c, e = .returned (.slice A n c) ∧ Rw fldE w' A n (fieldsP t) ∧ n ≤ c ∧ c ≤ 9223372036854775807 ∧ Below w.heap.size w w' := by
  refine calls_kw Try.func75 rfl Try.ntmps75 rfl [(0, .agg (typC t FA fn fc).toArray)] rfl ?_
  refine kw_seq ?_
  refine kw_region ?_
  refine kl_boxL (Lay.start w) rfl rfl rfl rfl rfl ?_
  intro g1 w1 hg1 hb1 hL1
  have HB := Lib.hid hb1
  have hT1 := Lib.hid (hT.keep (.of_below hb1))
  have c0 : w1.cell? ⟨g1, 0, none⟩ = some (.int .i64 t.kind) := hL1.get (j := 0) 0 rfl rfl
  have c3 : w1.cell? ⟨g1, 3, none⟩ = some (.slice FA fn fc) := hL1.get (j := 3) 0 rfl rfl
  clear hg1 hb1 hL1
  by_cases d8 : t.kind = 8
  · have q8 : (t.kind == 8) = true := beq_iff_eq.2 d8
    have hf0 := hf d8
    have hP : Hid (fieldsP t = t.fields) := by show _ = _; unfold fieldsP; rw [if_pos d8]
    obtain ⟨b, o, rfl, hcl⟩ := hT1.out.row.flat.2 (by show 0 < fn * 2; omega)
    have c3' : (w1.alloc (.cells #[] 118)).cell? ⟨g1, 3, none⟩ = some (.slice (some ⟨b, o, none⟩) fn fc) := Keeps.alloc w1 _ _ _ c3
    clear d8 hf
    repeat (first | refine kw_seq ?_ | refine kw_block ?_ | refine kw_region ?_ | refine kl_nil ?_ | refine kq_then ?_ | refine kw_ift rfl ?_ | refine kw_iff rfl ?_ | (first | refine kl_move rfl rfl (.inl rfl) rfl rfl ?_ | refine kl_move rfl rfl (.inr rfl) rfl rfl ?_ | refine kl_const rfl rfl (.inl rfl) rfl ?_ | refine kl_const rfl rfl (.inr rfl) rfl ?_) | ((first | refine kl_step rfl rfl rfl fun K hK => ?_ | refine kl_step0 rfl rfl rfl fun K hK => ?_); go_simp; (try go_bits); (first | refine hK _ _ ?_ | refine hK _ ?_); clear hK K))
    have hcl' : (w1.alloc (.cells #[] 118)).rangeAt b o (flatR fldE t.fields) := fun j v hv => Keeps.alloc w1 _ _ _ (hcl j v hv)
    refine kl_appendN 69 118 _ 2 24 Try.underlying69 fldInfo3 rfl (by omega) w1.heap.size (.slice (some ⟨w1.heap.size, 0, none⟩) 0 0) 0 [] (World.ownsRow_made w1 #[] 0 (Nat.le_refl _) (by simp [maxLen]) rfl) b o fn fc (flatR fldE t.fields) (by rw [flatR_len, hT1.out.row.len]; rfl) hcl' (flatR_one fldE _) (by omega) (by omega) (by simp) rfl rfl rfl rfl rfl rfl ?_
    intro v4 w4 ho4 hg4 hv4
    have hb4 : Below w.heap.size w w4 := by
      refine (HB.out.alloc HB.out.size _).grown hg4 (Nat.le_trans HB.out.size (by simp)) fun k hk => ?_
      simp [Value.ownBlock] at hk
      have := HB.out.size
      omega
    rw [List.nil_append, Nat.zero_add] at ho4
    obtain ⟨A4, c4, rfl, hr4, hn4, hc4, _⟩ := own_rw (E := fldE) ho4 hT1.out.row.len
    rw [← hP.out] at hr4
    clear hg4 hv4 ho4 c0 c3 c3' hcl hcl'
    repeat (first | refine kw_seq ?_ | refine kw_block ?_ | refine kw_skip ?_ | refine kw_region ?_ | refine kl_nil ?_ | refine kq_then ?_ | refine kq_block ?_ | refine kw_exit ?_ | refine kq_then_exit ?_ | refine kq_block_here rfl ?_ | refine kq_block_far rfl ?_ | refine kq_again_exit ?_ | refine kw_ret ?_ | refine kq_then_ret ?_ | refine kq_block_ret ?_ | refine kq_again_ret ?_ | refine kw_ift rfl ?_ | refine kw_iff rfl ?_ | refine kl_ung rfl rfl ?_ | refine kl_skipg rfl rfl rfl rfl ?_ | refine kl_skipg0 rfl rfl rfl ?_ | (first | refine kl_move rfl rfl (.inl rfl) rfl rfl ?_ | refine kl_move rfl rfl (.inr rfl) rfl rfl ?_ | refine kl_const rfl rfl (.inl rfl) rfl ?_ | refine kl_const rfl rfl (.inr rfl) rfl ?_) | ((first | refine kl_step rfl rfl rfl fun K hK => ?_ | refine kl_step0 rfl rfl rfl fun K hK => ?_); go_simp; (try go_bits); (first | refine hK _ _ ?_ | refine hK _ ?_); clear hK K))
    exact kq_ret1 rfl rfl ⟨_, _, _, rfl, hr4, hn4, hc4, hb4⟩
  have q8 : (t.kind == 8) = false := beq_eq_false_iff_ne.2 d8
  by_cases hk : t.kind = 9
  · have q9 : (t.kind == 9) = true := beq_iff_eq.2 hk
    have hP : Hid (fieldsP t = tonF) := by show _ = _; unfold fieldsP; rw [if_neg (by omega), if_pos hk]
    clear d8 hk hf hfn
    repeat (first | refine kw_seq ?_ | refine kw_block ?_ | refine kw_region ?_ | refine kl_nil ?_ | refine kq_then ?_ | refine kw_ift rfl ?_ | refine kw_iff rfl ?_ | (first | refine kl_move rfl rfl (.inl rfl) rfl rfl ?_ | refine kl_move rfl rfl (.inr rfl) rfl rfl ?_ | refine kl_const rfl rfl (.inl rfl) rfl ?_ | refine kl_const rfl rfl (.inr rfl) rfl ?_) | refine kl_build 118 _ _ rfl rfl rfl (by rfl) (by rfl) (fldBuilt2 _ _) ?_ | ((first | refine kl_step rfl rfl rfl fun K hK => ?_ | refine kl_step0 rfl rfl rfl fun K hK => ?_); go_simp; (try go_bits); (first | refine hK _ _ ?_ | refine hK _ ?_); clear hK K))
    have hr := rw_new fldE w1 tonF (flatR fldE tonF).toArray 118 rfl
    have hbb : Below w.heap.size w (w1.alloc (.cells (flatR fldE tonF).toArray 118)) := HB.out.alloc HB.out.size _
    refine (show KW _ _ _ _ _ (w1.alloc (.cells (flatR fldE tonF).toArray 118)) from ?_)
    have HR := Lib.hid hr
    have HBB := Lib.hid hbb
    clear hr hbb
    generalize w1.alloc (.cells (flatR fldE tonF).toArray 118) = w2 at HR HBB ⊢
    generalize w1.heap.size = g2 at HR ⊢
    repeat (first | refine kw_seq ?_ | refine kw_block ?_ | refine kw_skip ?_ | refine kw_region ?_ | refine kl_nil ?_ | refine kq_then ?_ | refine kq_block ?_ | refine kw_exit ?_ | refine kq_then_exit ?_ | refine kq_block_here rfl ?_ | refine kq_block_far rfl ?_ | refine kq_again_exit ?_ | refine kw_ret ?_ | refine kq_then_ret ?_ | refine kq_block_ret ?_ | refine kq_again_ret ?_ | refine kw_ift rfl ?_ | refine kw_iff rfl ?_ | refine kl_ung rfl rfl ?_ | refine kl_skipg rfl rfl rfl rfl ?_ | refine kl_skipg0 rfl rfl rfl ?_ | (first | refine kl_move rfl rfl (.inl rfl) rfl rfl ?_ | refine kl_move rfl rfl (.inr rfl) rfl rfl ?_ | refine kl_const rfl rfl (.inl rfl) rfl ?_ | refine kl_const rfl rfl (.inr rfl) rfl ?_) | ((first | refine kl_step rfl rfl rfl fun K hK => ?_ | refine kl_step0 rfl rfl rfl fun K hK => ?_); go_simp; (try go_bits); (first | refine hK _ _ ?_ | refine hK _ ?_); clear hK K))
    exact kq_ret1 rfl rfl ⟨_, 6, 6, rfl, by rw [hP.out]; exact HR.out, by omega, by omega, HBB.out⟩
  have q9 : (t.kind == 9) = false := beq_eq_false_iff_ne.2 hk
  have d9 := hk
  clear hk
  by_cases hk : t.kind = 10
  · have q10 : (t.kind == 10) = true := beq_iff_eq.2 hk
    have hP : Hid (fieldsP t = ctuF) := by show _ = _; unfold fieldsP; rw [if_neg (by omega), if_neg (by omega), if_pos hk]
    clear d8 d9 hk hf hfn
    repeat (first | refine kw_seq ?_ | refine kw_block ?_ | refine kw_region ?_ | refine kl_nil ?_ | refine kq_then ?_ | refine kw_ift rfl ?_ | refine kw_iff rfl ?_ | (first | refine kl_move rfl rfl (.inl rfl) rfl rfl ?_ | refine kl_move rfl rfl (.inr rfl) rfl rfl ?_ | refine kl_const rfl rfl (.inl rfl) rfl ?_ | refine kl_const rfl rfl (.inr rfl) rfl ?_) | refine kl_build 118 _ _ rfl rfl rfl (by rfl) (by rfl) (fldBuilt2 _ _) ?_ | ((first | refine kl_step rfl rfl rfl fun K hK => ?_ | refine kl_step0 rfl rfl rfl fun K hK => ?_); go_simp; (try go_bits); (first | refine hK _ _ ?_ | refine hK _ ?_); clear hK K))
    have hr := rw_new fldE w1 ctuF (flatR fldE ctuF).toArray 118 rfl
    have hbb : Below w.heap.size w (w1.alloc (.cells (flatR fldE ctuF).toArray 118)) := HB.out.alloc HB.out.size _
    refine (show KW _ _ _ _ _ (w1.alloc (.cells (flatR fldE ctuF).toArray 118)) from ?_)
    have HR := Lib.hid hr
    have HBB := Lib.hid hbb
    clear hr hbb
    generalize w1.alloc (.cells (flatR fldE ctuF).toArray 118) = w2 at HR HBB ⊢
    generalize w1.heap.size = g2 at HR ⊢
    repeat (first | refine kw_seq ?_ | refine kw_block ?_ | refine kw_skip ?_ | refine kw_region ?_ | refine kl_nil ?_ | refine kq_then ?_ | refine kq_block ?_ | refine kw_exit ?_ | refine kq_then_exit ?_ | refine kq_block_here rfl ?_ | refine kq_block_far rfl ?_ | refine kq_again_exit ?_ | refine kw_ret ?_ | refine kq_then_ret ?_ | refine kq_block_ret ?_ | refine kq_again_ret ?_ | refine kw_ift rfl ?_ | refine kw_iff rfl ?_ | refine kl_ung rfl rfl ?_ | refine kl_skipg rfl rfl rfl rfl ?_ | refine kl_skipg0 rfl rfl rfl ?_ | (first | refine kl_move rfl rfl (.inl rfl) rfl rfl ?_ | refine kl_move rfl rfl (.inr rfl) rfl rfl ?_ | refine kl_const rfl rfl (.inl rfl) rfl ?_ | refine kl_const rfl rfl (.inr rfl) rfl ?_) | ((first | refine kl_step rfl rfl rfl fun K hK => ?_ | refine kl_step0 rfl rfl rfl fun K hK => ?_); go_simp; (try go_bits); (first | refine hK _ _ ?_ | refine hK _ ?_); clear hK K))
    exact kq_ret1 rfl rfl ⟨_, 6, 6, rfl, by rw [hP.out]; exact HR.out, by omega, by omega, HBB.out⟩
  have q10 : (t.kind == 10) = false := beq_eq_false_iff_ne.2 hk
  have hP : fieldsP t = [] := by unfold fieldsP; rw [if_neg d8, if_neg d9, if_neg hk]
  have HP := Lib.hid hP
  clear d8 d9 hk hf hfn hP
  repeat (first | refine kw_seq ?_ | refine kw_block ?_ | refine kw_skip ?_ | refine kw_region ?_ | refine kl_nil ?_ | refine kq_then ?_ | refine kq_block ?_ | refine kw_exit ?_ | refine kq_then_exit ?_ | refine kq_block_here rfl ?_ | refine kq_block_far rfl ?_ | refine kq_again_exit ?_ | refine kw_ret ?_ | refine kq_then_ret ?_ | refine kq_block_ret ?_ | refine kq_again_ret ?_ | refine kw_ift rfl ?_ | refine kw_iff rfl ?_ | refine kl_ung rfl rfl ?_ | refine kl_skipg rfl rfl rfl rfl ?_ | refine kl_skipg0 rfl rfl rfl ?_ | (first | refine kl_move rfl rfl (.inl rfl) rfl rfl ?_ | refine kl_move rfl rfl (.inr rfl) rfl rfl ?_ | refine kl_const rfl rfl (.inl rfl) rfl ?_ | refine kl_const rfl rfl (.inr rfl) rfl ?_) | ((first | refine kl_step rfl rfl rfl fun K hK => ?_ | refine kl_step0 rfl rfl rfl fun K hK => ?_); go_simp; (try go_bits); (first | refine hK _ _ ?_ | refine hK _ ?_); clear hK K))
  exact kq_ret1 rfl rfl ⟨none, 0, 0, rfl, by rw [HP.out]; exact Rw.nil _ _, by omega, by omega, HB.out⟩
end Go.Proofs.Ytcpifcdndhhmgaa
