/- session.own. session.Chunk, plainly. -/
import Derived.Test.YtkgenkkcgegcbaaSesEq
import Derived.Test.YtkgenkkcgegcbaaConcat
namespace Go.Proofs.Ytkgenkkcgegcbaa
open Go.RowKit
attribute [local go_sem] ev_tmp ev_const ev_func ev_global lk_hit lk_miss uponK_value uponK_skip look_tmp look_const look_global look_func
/-- a session of its own: it owns its rows -/
structure OwnM (w : World) (B : Nat) (s : Ses) (D G : Value) (n : Nat) : Prop where
  id : I64 s.id
  size : I64 s.size
  sum : s.sum.length = 32
  data : w.ownsRow B 5 1 D n (bv s.data)
  got : w.ownsRow B 4 1 G n (bls s.got)
theorem own_setCell {w : World} {base : Nat} {e : TypeId} {size : Nat} {v : Value} {n : Nat} {xs : List Value} (h : w.ownsRow base e size v n xs) {p : Addr} (hp : p.block < base) (u : Value) : (w.setCell p u).ownsRow base e size v n xs := by
  refine ⟨h.1, ?_⟩
  rcases h.2 with h2 | ⟨g, cap, cur, hv, hg, hh, r⟩
  · exact .inl h2
  · exact .inr ⟨g, cap, cur, hv, hg, by rw [Below.heap_setCell _ _ _ _ (by omega)]; exact hh, r⟩
theorem own_setRow {w : World} {base : Nat} {e : TypeId} {size : Nat} {v : Value} {n : Nat} {xs : List Value} (h : w.ownsRow base e size v n xs) {g' : Nat} (hp : g' < base) (cs : Array Value) : (w.setRow g' cs).ownsRow base e size v n xs := by
  refine ⟨h.1, ?_⟩
  rcases h.2 with h2 | ⟨g, cap, cur, hv, hg, hh, r⟩
  · exact .inl h2
  · exact .inr ⟨g, cap, cur, hv, hg, by rw [setRow_other _ _ _ _ (by omega)]; exact hh, r⟩
def OwnP (s : Ses) (n : Nat) (w : World) (e : Ending) (w' : World) : Prop := ∃ D' G', e = .returned (.agg (sesV s D' G').toArray) ∧ OwnM w' w.heap.size s D' G' n ∧ Below w.heap.size w w'
set_option maxRecDepth 100000 in
set_option maxHeartbeats 1000000 in
theorem own_any (s : Ses) (D G : Value) (n : Nat) (w : World) (hM : SesM w s D G) (hd : s.data.length = n) (hg : s.got.length = n) (hn : n ≤ 1000000) :
    Calls Try.prog 32 #[.agg (sesV s D G).toArray] w (OwnP s n w) := by
  obtain ⟨A1, n1, c1, rfl, hB, hnc, hc⟩ := hM.data
  obtain ⟨A2, n2, c2, rfl, hO, hnc2, hc2⟩ := hM.got
  obtain rfl : n1 = n := by rw [← hB.len]; exact hd
  obtain rfl : n2 = n1 := by have := hO.1; rw [length_bls, hg] at this; exact this.symm
  have HS := Lib.hid hM.sum
  have HI := Lib.hid hM.id
  have HZ := Lib.hid hM.size
  clear hd hg hM
  refine calls_kw Try.func32 rfl Try.ntmps32 rfl [(0, .agg (sesV s (.slice A1 n2 c1) (.slice A2 n2 c2)).toArray)] rfl ?_
  refine kw_seq ?_
  refine kw_region ?_
  ((first | refine kl_step rfl rfl rfl fun K hK => ?_ | refine kl_step0 rfl rfl rfl fun K hK => ?_); go_simp; (try go_bits); (first | refine hK _ _ ?_ | refine hK _ ?_); clear hK K)
  obtain ⟨w1, hw1⟩ : ∃ w1, w1 = w.alloc (.cells (sesV s (.slice A1 n2 c1) (.slice A2 n2 c2)).toArray 32) := ⟨_, rfl⟩
  have hbw1 : Below w.heap.size w w1 := by rw [hw1]; exact (Below.refl _ _).alloc (Nat.le_refl _) _
  have h1 : w1.heap[w.heap.size]? = some (.cells (sesV s (.slice A1 n2 c1) (.slice A2 n2 c2)).toArray 32 (0, 0)) := by rw [hw1]; exact heap_alloc_new _ _
  have sw1 : w1.heap.size = w.heap.size + 1 := by rw [hw1]; simp
  rw [← hw1]
  clear hw1
  obtain ⟨g1, hg1⟩ : ∃ g, w.heap.size = g := ⟨_, rfl⟩
  have k34 := ses_cell h1 (ses_34 s _ _ HS.out)
  have k35 := ses_cell h1 (ses_35 s _ _ HS.out)
  rw [hg1] at h1 k34 k35
  have H1 := Lib.hid h1
  have HG1 := Lib.hid hg1
  rw [hg1]
  have b1 : w.heap.size ≤ g1 := by omega
  have l11 : g1 < w1.heap.size := by omega
  clear hg1 h1
  refine kl_alloc_row 32 sesZero rfl rfl rfl rfl ?_
  obtain ⟨w2, hw2⟩ : ∃ w2, w2 = w1.alloc (.cells zSes.toArray 32) := ⟨_, rfl⟩
  have hbw2 : Below w1.heap.size w1 w2 := by rw [hw2]; exact (Below.refl _ _).alloc (Nat.le_refl _) _
  have h2 : w2.heap[w1.heap.size]? = some (.cells zSes.toArray 32 (0, 0)) := by rw [hw2]; exact heap_alloc_new _ _
  have sw2 : w2.heap.size = w1.heap.size + 1 := by rw [hw2]; simp
  rw [← hw2]
  clear hw2
  obtain ⟨g2, hg2⟩ : ∃ g, w1.heap.size = g := ⟨_, rfl⟩
  have k34 := Keeps.of_below hbw2 _ _ k34
  have k35 := Keeps.of_below hbw2 _ _ k35
  have H1 := Lib.hid (below_atK hbw2 H1.out)
  rw [hg2] at h2 ⊢
  have hb := below_two hbw1 hbw2
  have H2 := Lib.hid h2
  have n12 : g1 ≠ g2 := by omega
  have b2 : w.heap.size ≤ g2 := by omega
  have l1 : g1 < w2.heap.size := by omega
  have l2 : g2 < w2.heap.size := by omega
  have hB2 := hB.keep (.of_below hb)
  have hO2 := Vs.keep hO (.of_below hb)
  clear hg2 h2 sw2 sw1
  repeat (first | refine kw_seq ?_ | refine kw_block ?_ | refine kw_skip ?_ | refine kw_region ?_ | refine kl_nil ?_ | refine kq_then ?_ | refine kq_block ?_ | refine kw_exit ?_ | refine kq_then_exit ?_ | refine kq_block_here rfl ?_ | refine kq_block_far rfl ?_ | refine kq_again_exit ?_ | refine kw_ret ?_ | refine kq_then_ret ?_ | refine kq_block_ret ?_ | refine kq_again_ret ?_ | refine kw_ift rfl ?_ | refine kw_iff rfl ?_ | refine kl_ung rfl rfl ?_ | refine kl_skipg rfl rfl rfl rfl ?_ | refine kl_skipg0 rfl rfl rfl ?_ | (first | refine kl_move rfl rfl (.inl rfl) rfl rfl ?_ | refine kl_move rfl rfl (.inr rfl) rfl rfl ?_ | refine kl_const rfl rfl (.inl rfl) rfl ?_ | refine kl_const rfl rfl (.inr rfl) rfl ?_) | ((first | refine kl_step rfl rfl rfl fun K hK => ?_ | refine kl_step0 rfl rfl rfl fun K hK => ?_); go_simp; (try go_bits); (first | refine hK _ _ ?_ | refine hK _ ?_); clear hK K))
  refine KW.less [1, 2] ?_
  simp only [nrm, lk, Nat.reduceBEq, cond_true, cond_false]
  refine kw_region_xt 7 [none, none, some (fun W v => W.ownsRow w2.heap.size 5 1 v n2 (bv s.data)), none, none, some (fun W v => W.ownsRow w2.heap.size 4 1 v n2 (bls s.got)), none]
    [[(1, none)], [(3, some 0)], [(4, some 1)], [(1, none)], [(6, some 3)], [(7, some 4)], [(1, none)]]
    [1, 2] (by kernel_rfl) (by kernel_rfl) (by kernel_rfl) (by kernel_rfl) (by kernel_rfl)
    ⟨(fun _ _ _ hb h => own_below h hb), (fun _ _ _ hb h => own_below h hb), trivial⟩ ?_
  repeat (first | apply exs_none | apply exs_some)
  refine exs_nil (And.intro ?v1_vc ?v1_fin)
  case v1_vc =>
    refine ⟨?_, ?_, ?_, ?_, ?_, ?_, ?_, trivial⟩
    · refine vk_none rfl fun A W hR h N hN => ?_
      refine vk_of N ?_
      obtain ⟨h1, _⟩ := h
      replace h1 := h1 _ rfl
      go_simp
      (try go_bits)
      exact hN _ _ (Below.refl _ _) rfl
    · refine vk_none rfl fun A W hR h N hN => ?_
      refine vk_of N ?_
      obtain ⟨h3, _⟩ := h
      replace h3 : A.tmps[3]?.getD undef = _ := h3
      have k34 := Keeps.of_below hR _ _ k34
      have k35 := Keeps.of_below hR _ _ k35
      go_simp
      (try go_bits)
      exact hN _ _ (Below.refl _ _) rfl
    · refine vk_call rfl rfl Try.func37 rfl (by kernel_rfl) fun A W hR h => ?_
      obtain ⟨h4, _⟩ := h
      replace h4 : A.tmps[4]?.getD undef = _ := h4
      show Calls _ _ #[A.tmps[4]?.getD undef] _ _
      rw [h4]
      refine Calls.mono (clone_any _ _ _ s.data _ (hB2.keep (.of_below hR)) (by omega)) ?_
      rintro e W' ⟨v, rfl, hown, hb'⟩
      exact ⟨_, rfl, hb', ownsRow_base hown hR.size⟩
    · refine vk_none rfl fun A W hR h N hN => ?_
      refine vk_of N ?_
      obtain ⟨h1, _⟩ := h
      replace h1 := h1 _ rfl
      go_simp
      (try go_bits)
      exact hN _ _ (Below.refl _ _) rfl
    · refine vk_none rfl fun A W hR h N hN => ?_
      refine vk_of N ?_
      obtain ⟨h6, _⟩ := h
      replace h6 : A.tmps[6]?.getD undef = _ := h6
      have k34 := Keeps.of_below hR _ _ k34
      have k35 := Keeps.of_below hR _ _ k35
      go_simp
      (try go_bits)
      exact hN _ _ (Below.refl _ _) rfl
    · refine vk_call rfl rfl Try.func59 rfl (by kernel_rfl) fun A W hR h => ?_
      obtain ⟨h7, _⟩ := h
      replace h7 : A.tmps[7]?.getD undef = _ := h7
      show Calls _ _ #[A.tmps[7]?.getD undef] _ _
      rw [h7]
      refine Calls.mono (cloneO_any _ _ _ s.got _ (Vs.keep hO2 (.of_below hR)) (by omega)) ?_
      rintro e W' ⟨v, rfl, hown, hb'⟩
      exact ⟨_, rfl, hb', ownsRow_base hown hR.size⟩
    · refine vk_none rfl fun A W hR h N hN => ?_
      refine vk_of N ?_
      obtain ⟨h1, _⟩ := h
      replace h1 := h1 _ rfl
      go_simp
      (try go_bits)
      exact hN _ _ (Below.refl _ _) rfl
  case v1_fin =>
    intro fa fW fk hR he
    have e6 := he.2.2.2.2.2.2.1
    have e2 := he.2.2.1
    have e5 := he.2.2.2.2.2.1
    clear he
    replace e6 : fa.tmps[9]?.getD undef = _ := e6
    replace fk := fk.more 9 _ e6
    clear e6
    obtain ⟨A8, c8, e8', p1, p2, p3, _⟩ := own_slice (show fW.ownsRow w2.heap.size 5 1 (fa.tmps[5]?.getD undef) n2 (bv s.data) from e2)
    obtain ⟨A11, c11, e11', q1, q2, q3, _⟩ := own_slice (show fW.ownsRow w2.heap.size 4 1 (fa.tmps[8]?.getD undef) n2 (bls s.got) from e5)
    have hD : fW.ownsRow w2.heap.size 5 1 (.slice A8 n2 c8) n2 (bv s.data) := by rw [← e8']; exact e2
    have hG : fW.ownsRow w2.heap.size 4 1 (.slice A11 n2 c11) n2 (bls s.got) := by rw [← e11']; exact e5
    replace fk := fk.more 5 _ e8'
    replace fk := fk.more 8 _ e11'
    have h1 := below_atK hR H1.out
    have h2 := below_atK hR H2.out
    have hb := below_then hb hR hb.size
    have k34 := Keeps.of_below hR _ _ k34
    have k35 := Keeps.of_below hR _ _ k35
    have f34 : fW.frozen? ⟨g1, 34, none⟩ = false := free_of_block h1
    have f35 : fW.frozen? ⟨g1, 35, none⟩ = false := free_of_block h1
    have H1 := Lib.hid h1
    have H2 := Lib.hid h2
    clear e2 e5 e8' e11' p2 p3 q2 q3 h1 h2
    refine kl_of _ _ ?_ fk
    clear fk fa
    simp only [nrm, lk, Nat.reduceBEq, cond_true, cond_false, List.take_succ_cons, List.take_zero, List.drop_succ_cons, List.drop_zero]
    repeat (first | refine kw_seq ?_ | refine kw_block ?_ | refine kw_skip ?_ | refine kw_region ?_ | refine kl_nil ?_ | refine kq_then ?_ | refine kq_block ?_ | refine kw_exit ?_ | refine kq_then_exit ?_ | refine kq_block_here rfl ?_ | refine kq_block_far rfl ?_ | refine kq_again_exit ?_ | refine kw_ret ?_ | refine kq_then_ret ?_ | refine kq_block_ret ?_ | refine kq_again_ret ?_ | refine kw_ift rfl ?_ | refine kw_iff rfl ?_ | refine kl_ung rfl rfl ?_ | refine kl_skipg rfl rfl rfl rfl ?_ | refine kl_skipg0 rfl rfl rfl ?_ | (first | refine kl_move rfl rfl (.inl rfl) rfl rfl ?_ | refine kl_move rfl rfl (.inr rfl) rfl rfl ?_ | refine kl_const rfl rfl (.inl rfl) rfl ?_ | refine kl_const rfl rfl (.inr rfl) rfl ?_) | ((first | refine kl_step rfl rfl rfl fun K hK => ?_ | refine kl_step0 rfl rfl rfl fun K hK => ?_); go_simp; (try go_bits); (first | refine hK _ _ ?_ | refine hK _ ?_); clear hK K))
    have h1 := ses_setCell (ses_setCell H1.out 34 (.slice A8 n2 c8)) 35 (.slice A11 n2 c11)
    rw [ses_set34 s _ _ _ HS.out, ses_set35 s _ _ _ HS.out] at h1
    have h2 : ((fW.setCell ⟨g1, 34, none⟩ (.slice A8 n2 c8)).setCell ⟨g1, 35, none⟩ (.slice A11 n2 c11)).heap[g2]? = some (.cells zSes.toArray 32 (0, 0)) := by
      rw [Below.heap_setCell _ _ _ _ (Ne.symm n12), Below.heap_setCell _ _ _ _ (Ne.symm n12)]; exact H2.out
    have hD' := own_setCell (own_setCell hD (p := ⟨g1, 34, none⟩) l1 (.slice A8 n2 c8)) (p := ⟨g1, 35, none⟩) l1 (.slice A11 n2 c11)
    have hG' := own_setCell (own_setCell hG (p := ⟨g1, 34, none⟩) l1 (.slice A8 n2 c8)) (p := ⟨g1, 35, none⟩) l1 (.slice A11 n2 c11)
    have hb' : Below w.heap.size w ((fW.setCell ⟨g1, 34, none⟩ (.slice A8 n2 c8)).setCell ⟨g1, 35, none⟩ (.slice A11 n2 c11)) := (hb.setCell b1 _).setCell b1 _
    generalize (fW.setCell ⟨g1, 34, none⟩ (.slice A8 n2 c8)).setCell ⟨g1, 35, none⟩ (.slice A11 n2 c11) = w5 at *
    refine kl_load_row 32 g1 _ _ _ _ h1 Try.underlying32 rfl (infoS s _ _ HS.out) rfl rfl rfl rfl rfl ?_
    refine kl_store_row 32 g2 _ _ zSes.toArray h2 (infoS s _ _ HS.out) (sizeZ s _ _ HS.out) (sesV_one _ _ _ rfl rfl) rfl rfl rfl rfl rfl ?_
    repeat (first | refine kw_seq ?_ | refine kw_block ?_ | refine kw_skip ?_ | refine kw_region ?_ | refine kl_nil ?_ | refine kq_then ?_ | refine kq_block ?_ | refine kw_exit ?_ | refine kq_then_exit ?_ | refine kq_block_here rfl ?_ | refine kq_block_far rfl ?_ | refine kq_again_exit ?_ | refine kw_ret ?_ | refine kq_then_ret ?_ | refine kq_block_ret ?_ | refine kq_again_ret ?_ | refine kw_ift rfl ?_ | refine kw_iff rfl ?_ | refine kl_ung rfl rfl ?_ | refine kl_skipg rfl rfl rfl rfl ?_ | refine kl_skipg0 rfl rfl rfl ?_ | (first | refine kl_move rfl rfl (.inl rfl) rfl rfl ?_ | refine kl_move rfl rfl (.inr rfl) rfl rfl ?_ | refine kl_const rfl rfl (.inl rfl) rfl ?_ | refine kl_const rfl rfl (.inr rfl) rfl ?_) | ((first | refine kl_step rfl rfl rfl fun K hK => ?_ | refine kl_step0 rfl rfl rfl fun K hK => ?_); go_simp; (try go_bits); (first | refine hK _ _ ?_ | refine hK _ ?_); clear hK K))
    refine kq_retv (v := .agg (sesV s (.slice A8 n2 c8) (.slice A11 n2 c11)).toArray) (fun a k => results_cell_row rfl _ _ g2 32 _ (0, 0) _ (k.slot 2 rfl) (setRow_block h2) Try.underlying32 rfl (infoS s _ _ HS.out)) ?_
    exact ⟨_, _, rfl, ⟨HI.out, HZ.out, HS.out, ownsRow_base (own_setRow hD' l2 _) (by have := hbw1.size; have := hbw2.size; omega), ownsRow_base (own_setRow hG' l2 _) (by have := hbw1.size; have := hbw2.size; omega)⟩, below_setRow hb' b2 _⟩
end Go.Proofs.Ytkgenkkcgegcbaa
namespace Go.Proofs.Ytkgenkkcgegcbaa
open Go.RowKit
/-- the first k of xs laid at a -/
def layK {α : Type} (l : List α) (a : Nat) (xs : List α) (k : Nat) : List α := l.take a ++ xs.take k ++ l.drop (a + k)
theorem length_layK {α : Type} (l : List α) (a : Nat) (xs : List α) (k : Nat) (hk : k ≤ xs.length) (ha : a + k ≤ l.length) : (layK l a xs k).length = l.length := by
  simp only [layK, List.length_append, List.length_take, List.length_drop]; omega
theorem layK_zero {α : Type} (l : List α) (a : Nat) (xs : List α) : layK l a xs 0 = l := by simp [layK]
theorem layK_set {α : Type} (l : List α) (a : Nat) (xs : List α) (k : Nat) (x : α) (hx : xs[k]? = some x) (ha : a + k < l.length) : (layK l a xs k).set (a + k) x = layK l a xs (k + 1) := by
  have hk : k < xs.length := (List.getElem?_eq_some_iff.1 hx).1
  have he : xs[k] = x := (List.getElem?_eq_some_iff.1 hx).2
  unfold layK
  rw [List.set_append_right _ _ (by simp; omega), List.take_succ_eq_append_getElem hk, he]
  have hl : (List.take a l ++ List.take k xs).length = a + k := by simp; omega
  rw [hl, Nat.sub_self, List.drop_eq_getElem_cons ha, List.set_cons_zero]
  simp [Nat.add_assoc]
theorem layK_get {α : Type} (l : List α) (a : Nat) (xs : List α) (k i : Nat) (hi : a + k ≤ i) (hk : k ≤ xs.length) (ha : a + k ≤ l.length) : (layK l a xs k)[i]? = l[i]? := by
  unfold layK
  rw [List.getElem?_append_right (by simp; omega), List.getElem?_drop]
  congr 1
  simp; omega
def clash (s : Ses) (f : Frm) : Bool := (List.range f.data.length).any fun i => s.got.getD (f.at_.toNat + i) false && (s.data.getD (f.at_.toNat + i) 0 != f.data.getD i 0)
def argBad (s : Ses) (f : Frm) : Prop := f.data.length = 0 ∨ f.at_ < 0 ∨ s.size < f.data.length ∨ s.size - f.data.length < f.at_
instance (s : Ses) (f : Frm) : Decidable (argBad s f) := by unfold argBad; infer_instance
def chunkE (s : Ses) (f : Frm) : Int := if f.id ≠ s.id then 2 else if argBad s f then 1 else if clash s f = true then 10 else 0
def chunkS (s : Ses) (f : Frm) : Ses := if chunkE s f = 0 then { s with data := layK s.data f.at_.toNat f.data f.data.length, got := layK s.got f.at_.toNat (List.replicate f.data.length true) f.data.length } else s
theorem setCell_twice (w : World) (g o : Nat) (v v' : Value) : (w.setCell ⟨g, o, none⟩ v).setCell ⟨g, o, none⟩ v' = w.setCell ⟨g, o, none⟩ v' := by
  unfold World.setCell
  congr 1
  apply Array.ext
  · simp
  · intro i h1 h2
    simp only [Array.getElem_modify]
    by_cases hg : g = i
    · simp only [hg, if_true]
      have hi : i < w.heap.size := by simpa using h2
      generalize w.heap[i]'hi = x
      cases x <;> simp
    · simp only [hg, if_false]
/-- the block that the slice lies in is of this element's type -/
def Ty (w : World) (e : TypeId) (v : Value) : Prop := ∀ b o n c, v = .slice (some ⟨b, o, none⟩) n c → ∃ cs, w.heap[b]? = some (.cells cs e (0, 0))
theorem Ty.own {w : World} {base : Nat} {e : TypeId} {size : Nat} {v : Value} {n : Nat} {xs : List Value} (h : w.ownsRow base e size v n xs) : Ty w e v := by
  rcases h.2 with ⟨rfl, _⟩ | ⟨g, cap, cur, rfl, hg, hh, _⟩
  · intro b o n c e; cases e
  · intro b o n c e; cases e; exact ⟨_, hh⟩
theorem Ty.keep {w w' : World} {e : TypeId} {v : Value} (h : Ty w e v) (hb : Below w.heap.size w w') : Ty w' e v := fun b o n c ev => by
  obtain ⟨cs, hc⟩ := h b o n c ev
  exact ⟨cs, below_atK hb hc⟩
theorem Ty.ne {w : World} {e e' : TypeId} {v : Value} (h : Ty w e v) {g : Nat} {cs : Array Value} (hg : w.heap[g]? = some (.cells cs e' (0, 0))) (hne : e ≠ e') : ∀ b o n c, v = .slice (some ⟨b, o, none⟩) n c → b ≠ g := fun b o n c ev hb => by
  obtain ⟨cs', hc⟩ := h b o n c ev
  rw [hb, hg] at hc
  injection hc with hc
  injection hc with _ h2 _
  exact hne h2.symm
def ChunkO (s : Ses) (f : Frm) (w : World) (e : Ending) (w' : World) : Prop := ∃ D' G', e = .returned (.tuple #[.agg (sesV (chunkS s f) D' G').toArray, .int .i64 (chunkE s f)]) ∧ SesM w' (chunkS s f) D' G' ∧ Below w.heap.size w w' ∧ Fr w.heap.size D' ∧ Fr w.heap.size G' ∧ Ty w' 5 D' ∧ Ty w' 4 G'
def ChunkP (s : Ses) (f : Frm) (w : World) (e : Ending) (w' : World) : Prop := ∃ D' G', e = .returned (.tuple #[.agg (sesV (chunkS s f) D' G').toArray, .int .i64 (chunkE s f)]) ∧ SesM w' (chunkS s f) D' G' ∧ Below w.heap.size w w' ∧ Fr w.heap.size D' ∧ Fr w.heap.size G'
theorem chunkS_err {s : Ses} {f : Frm} (h : chunkE s f ≠ 0) : chunkS s f = s := if_neg h
theorem own_ses {w : World} {B n : Nat} {s : Ses} {D G : Value} (h : OwnM w B s D G n) : SesM w s D G := by
  obtain ⟨A1, c1, rfl, a1, a2, a3, _⟩ := own_slice h.data
  obtain ⟨A2, c2, rfl, b1, b2, b3, _⟩ := own_slice h.got
  exact ⟨h.id, h.size, h.sum, ⟨_, _, _, rfl, a3, a1, by simpa [maxLen] using a2⟩, ⟨_, _, _, rfl, b3, b1, by simpa [maxLen] using b2⟩⟩
theorem own_apart {w : World} {B n c c' g g' : Nat} {xs ys : List Value} {e e' : TypeId} (hne : e ≠ e') (h : w.ownsRow B e 1 (.slice (some ⟨g, 0, none⟩) n c) n xs) (h' : w.ownsRow B e' 1 (.slice (some ⟨g', 0, none⟩) n c') n ys) : g ≠ g' := by
  intro hg
  subst hg
  rcases h.2 with ⟨h1, _⟩ | ⟨_, _, _, h1, _, h2, _⟩
  · cases h1
  rcases h'.2 with ⟨h1', _⟩ | ⟨_, _, _, h1', _, h2', _⟩
  · cases h1'
  injection h1 with h1 _ _
  injection h1 with h1
  injection h1 with h1
  injection h1' with h1' _ _
  injection h1' with h1'
  injection h1' with h1'
  subst h1
  subst h1'
  rw [h2] at h2'
  injection h2' with h2'
  injection h2' with _ h3 _
  exact hne h3
theorem own_drew {w : World} {base : Nat} {e : TypeId} {size : Nat} {v : Value} {n : Nat} {xs : List Value} (h : w.ownsRow base e size v n xs) : w.drew.ownsRow base e size v n xs := h
/-- a store into another row leaves it -/
theorem own_farCell {w : World} {base : Nat} {e : TypeId} {size n c g : Nat} {xs : List Value} (h : w.ownsRow base e size (.slice (some ⟨g, 0, none⟩) n c) n xs) {p : Addr} (hp : g ≠ p.block) (u : Value) : (w.setCell p u).ownsRow base e size (.slice (some ⟨g, 0, none⟩) n c) n xs := by
  refine ⟨h.1, ?_⟩
  rcases h.2 with h2 | ⟨g', cap, cur, hv, hg, hh, r⟩
  · exact .inl h2
  · have hgg : g = g' := by injection hv with hv _ _; injection hv with hv; injection hv
    exact .inr ⟨g', cap, cur, hv, hg, by rw [Below.heap_setCell _ _ _ _ (by rw [← hgg]; exact hp)]; exact hh, r⟩
theorem own_store {w : World} {base : Nat} {e : TypeId} {n c g : Nat} {xs : List Value} (h : w.ownsRow base e 1 (.slice (some ⟨g, 0, none⟩) n c) n xs) (j : Nat) (u : Value) : (w.setCell ⟨g, j, none⟩ u).ownsRow base e 1 (.slice (some ⟨g, 0, none⟩) n c) n (xs.set j u) := (h.stored j u).1
theorem own_at {w : World} {base : Nat} {e : TypeId} {n c g : Nat} {xs : List Value} (h : w.ownsRow base e 1 (.slice (some ⟨g, 0, none⟩) n c) n xs) {j : Nat} {u : Value} (hu : xs[j]? = some u) : w.cell? ⟨g, j, none⟩ = some u := by
  have := (Vs.of_own h).cellAt hu
  rwa [Nat.zero_add] at this
theorem own_free {w : World} {base : Nat} {e : TypeId} {n c g j : Nat} {xs : List Value} (h : w.ownsRow base e 1 (.slice (some ⟨g, 0, none⟩) n c) n xs) : w.frozen? ⟨g, j, none⟩ = false := by
  rcases h.2 with ⟨h1, _⟩ | ⟨g', cap, cur, hv, _, hh, _⟩
  · cases h1
  · injection hv with hv _ _
    injection hv with hv
    injection hv with hv
    subst hv
    exact free_of_block hh
end Go.Proofs.Ytkgenkkcgegcbaa
