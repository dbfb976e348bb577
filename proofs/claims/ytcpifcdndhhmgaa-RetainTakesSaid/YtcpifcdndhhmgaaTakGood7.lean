/- Types such as may be, of raw ones. -/
import Derived.Test.YtcpifcdndhhmgaaKnR
import Derived.Test.YtcpifcdndhhmgaaWithin7
import Derived.Test.YtcpifcdndhhmgaaKnU
import Derived.Test.YtcpifcdndhhmgaaRetRd
import Derived.Test.YtcpifcdndhhmgaaKnF
import Derived.Test.YtcpifcdndhhmgaaTakTake
import Derived.Test.YtcpifcdndhhmgaaTakOf
set_option linter.unusedVariables false
set_option linter.unusedSimpArgs false
namespace Go.Proofs.Ytcpifcdndhhmgaa
open Go.RowKit
attribute [local go_sem] ev_tmp ev_const ev_func ev_global lk_hit lk_miss uponK_value uponK_skip look_tmp look_const look_global look_func valP_value
def fName (i : Nat) : List UInt8 := [102, UInt8.ofNat (48 + i)]
/-- fields such as may be -/
structure FsOk (k : Nat) (fs : List FldV) : Prop where
  len : fs.length = k
  at_ : ∀ i f, fs[i]? = some f → f.name = fName i ∧ 1 ≤ f.kind ∧ f.kind ≤ 6
theorem FsOk.nil : FsOk 0 [] := ⟨rfl, fun i f h => by simp at h⟩
theorem FsOk.next {k : Nat} {fs : List FldV} (h : FsOk k fs) (z : Int) (hz : 1 ≤ z ∧ z ≤ 6) : FsOk (k + 1) (fs ++ [⟨fName k, z⟩]) :=
  ⟨by simp [h.len], fun i f hi => by
    rcases Nat.lt_trichotomy i k with hl | rfl | hl
    · rw [List.getElem?_append_left (by rw [h.len]; exact hl)] at hi; exact h.at_ i f hi
    · rw [List.getElem?_append_right (by rw [h.len]; exact Nat.le_refl _), h.len, Nat.sub_self] at hi
      simp at hi; subst hi; exact ⟨rfl, hz⟩
    · have := (List.getElem?_eq_some_iff.1 hi).1
      simp [h.len] at this; omega⟩
theorem FsOk.typ {k : Nat} {fs : List FldV} (h : FsOk k fs) (h1 : 1 ≤ k) (h2 : k ≤ 4) : TypOk ⟨8, 0, 0, fs⟩ := by
  refine ⟨⟨by show (1 : Int) ≤ 8; decide, by show (8 : Int) ≤ 10; decide⟩, fun e => by simp at e, fun e => by simp at e, fun _ => by show 1 ≤ fs.length; rw [h.len]; exact h1, fun f hf => ?_, by show fs.length ≤ 6; rw [h.len]; omega, ?_⟩
  · obtain ⟨i, hi⟩ := List.getElem?_of_mem hf
    obtain ⟨a, b, c⟩ := h.at_ i f hi
    exact ⟨b, c, by rw [a]; simp [fName]⟩
  · show (fs.map (·.name)).Nodup
    rw [List.Nodup, List.pairwise_iff_getElem]
    intro i j hi hj hij e
    simp only [List.length_map] at hi hj
    rw [List.getElem_map, List.getElem_map] at e
    have a1 := (h.at_ i _ (List.getElem?_eq_getElem hi)).1
    have a2 := (h.at_ j _ (List.getElem?_eq_getElem hj)).1
    rw [a1, a2] at e
    unfold fName at e
    simp at e
    have := congrArg UInt8.toNat e
    have hl := h.len
    simp at this
    omega
theorem typ_bare (k : Int) (h : 1 ≤ k ∧ k ≤ 10) (h7 : k ≠ 7) (h8 : k ≠ 8) : TypOk ⟨k, 0, 0, []⟩ :=
  ⟨h, fun e => absurd e h7, fun e => absurd e h7, fun e => absurd e h8, fun f hf => absurd hf (by simp), by simp, by simp⟩
theorem typ_arr (e n : Int) (he : 1 ≤ e ∧ e ≤ 6) (hn : 1 ≤ n ∧ n ≤ 8) : TypOk ⟨7, e, n, []⟩ :=
  ⟨⟨by show (1 : Int) ≤ 7; decide, by show (7 : Int) ≤ 10; decide⟩, fun _ => he, fun _ => hn, fun e => by simp at e, fun f hf => absurd hf (by simp), by simp, by simp⟩
def typZ : TypV := ⟨0, 0, 0, []⟩
theorem typZero : (Try.prog.info? 71).bind (·.zero) = some (.agg (typC typZ none 0 0).toArray) := by kernel_rfl
theorem typC_agg (t : TypV) (FA : Option Addr) (fn fc : Nat) : (typC t FA fn fc).toArray.all (·.oneCell') = true := by
  rw [List.all_toArray, List.all_eq_true]
  intro u hu
  simp only [typC, List.mem_cons, List.not_mem_nil, or_false] at hu
  rcases hu with rfl | rfl | rfl | rfl <;> rfl
theorem typUnder : ∃ fs, Try.prog.underlying 71 = some (.struct fs) ∧ fs.toList.mapM (fun f => (Try.prog.info? f.type).map fun i => (f.offset, i.size)) = some [(0, 1), (1, 1), (2, 1), (3, 1)] := ⟨_, Try.underlying71, by kernel_rfl⟩
theorem typBuilt1 (q : Int) : Try.prog.built 71 [(0, .int .i64 q)] = some (typC ⟨q, 0, 0, []⟩ none 0 0).toArray := by
  obtain ⟨fs, hu, hp⟩ := typUnder
  rw [built_struct typZero hu hp]
  refine (fill_step _ [] (typC typZ none 0 0) 0 (.int .i64 q) [.int .i64 q] rfl rfl (by simp [typC]) []).trans ?_
  rw [fill_nil]; rfl
/-- what all worlds of the fields' region meet -/
def R7 (wa : World) (g3 : Nat) (v : Value) (W : World) : Prop := Below wa.heap.size wa W ∧ W.cell? ⟨g3, 3, none⟩ = some v
/-- a struct with its fields so far -/
structure FsM (wa w : World) (g3 : Nat) (v : Value) (k : Nat) (fs : List FldV) : Prop where
  lay : Lay wa w [(g3, #[.int .i64 8, .int .i64 0, .int .i64 0, v], 71)]
  own : w.ownsRow wa.heap.size 118 2 v k (flatR fldE fs)
  ne : v.ownBlock ≠ some g3
theorem FsM.next {wa w w' : World} {g3 k : Nat} {v : Value} {fs : List FldV} (h : FsM wa w g3 v k fs) (hb : Below w.heap.size w w') : FsM wa w' g3 v k fs := ⟨h.lay.next hb, own_below h.own hb, h.ne⟩
theorem FsM.r {wa w : World} {g3 k : Nat} {v : Value} {fs : List FldV} (h : FsM wa w g3 v k fs) : R7 wa g3 v w := ⟨h.lay.below, h.lay.get (cs := [.int .i64 8, .int .i64 0, .int .i64 0, v]) (j := 3) 0 rfl rfl⟩
theorem FsM.lit {wa w : World} {g3 k : Nat} {v : Value} {fs : List FldV} (h : FsM wa w g3 v k fs) (cs : Array Value) (t : TypeId) : FsM wa (w.alloc (.cells cs t)) g3 v k fs := h.next ((Below.refl _ _).alloc (Nat.le_refl _) _)
theorem FsM.app {wa w w' : World} {g3 k n : Nat} {v v' : Value} {fs : List FldV} {xs : List Value} (h : FsM wa w g3 v k fs) (ho : w'.ownsRow wa.heap.size 118 2 v' n xs) (hg : w.grownBy w' v.ownBlock) (hv : v'.ownBlock = v.ownBlock ∨ v'.ownBlock = some w.heap.size) :
    Lay wa w' [(g3, #[.int .i64 8, .int .i64 0, .int .i64 0, v], 71)] ∧ w'.ownsRow wa.heap.size 118 2 v' n xs ∧ v'.ownBlock ≠ some g3 := by
  refine ⟨lay_own1 h.lay hg h.own h.ne, ho, ?_⟩
  rcases hv with e | e
  · rw [e]; exact h.ne
  · rw [e]
    have := h.lay.lt 0 rfl
    intro e2
    injection e2 with e2
    omega
theorem FsM.store {wa w : World} {g3 k : Nat} {v v' : Value} {fs : List FldV} (hl : Lay wa w [(g3, #[.int .i64 8, .int .i64 0, .int .i64 0, v], 71)]) (ho : w.ownsRow wa.heap.size 118 2 v' k (flatR fldE fs)) (hne : v'.ownBlock ≠ some g3) : FsM wa (w.setCell ⟨g3, 3, none⟩ v') g3 v' k fs :=
  ⟨hl.cell (cs := [.int .i64 8, .int .i64 0, .int .i64 0, v]) 0 rfl 3 v', ho.kept (grown_set w g3 3 v') (.inr hne), hne⟩
/-- what stands behind the kinds -/
structure GoodM (wa w : World) (g3 : Nat) (x : TypV) (FA : Option Addr) (fn fc : Nat) : Prop where
  ok : TypOk x
  lay : Lay wa w [(g3, (typC x FA fn fc).toArray, 71)]
  mem : TypM w x FA fn fc
  far : ∀ a, FA = some a → wa.heap.size ≤ a.block
theorem GoodM.bare {wa w : World} {g3 : Nat} {x : TypV} (hok : TypOk x) (hx : x.fields = []) (hl : Lay wa w [(g3, (typC x none 0 0).toArray, 71)]) : GoodM wa w g3 x none 0 0 :=
  ⟨hok, hl, ⟨by rw [hx]; exact Rw.nil _ _, by omega, by omega⟩, fun a e => by cases e⟩
theorem FsM.good {wa w : World} {g3 k : Nat} {v : Value} {fs : List FldV} (h : FsM wa w g3 v k fs) (hf : FsOk k fs) (h1 : 1 ≤ k) (h2 : k ≤ 4) : ∃ FA fc, GoodM wa w g3 ⟨8, 0, 0, fs⟩ FA k fc := by
  obtain ⟨A, c, rfl, hr, hn, hc, _, hfa⟩ := own_rw (E := fldE) h.own hf.len
  exact ⟨A, c, hf.typ h1 h2, h.lay, ⟨hr, hn, hc⟩, hfa⟩
theorem u8_48k (q k : Nat) (h : 48 + k = q) (hk : k < 10) : [UInt8.ofNat (48 + k)] = [u8n q] := by subst h; rfl
set_option maxRecDepth 100000 in
set_option maxHeartbeats 4000000 in
theorem good7_any (t : TypV) (FA : Option Addr) (fn fc : Nat) (w : World) (hT : TypM w t FA fn fc) :
    Calls Try.prog 51 #[.agg (typC t FA fn fc).toArray] w fun e w' => ∃ x FA fn fc, e = .returned (.agg (typC x FA fn fc).toArray) ∧ TypOk x ∧ TypM w' x FA fn fc ∧ Below w.heap.size w w' ∧ (∀ a, FA = some a → w.heap.size ≤ a.block) := by
  refine calls_kw Try.func51 rfl Try.ntmps51 rfl [(0, .agg (typC t FA fn fc).toArray)] rfl ?_
  refine kw_seq ?_
  refine kw_region ?_
  refine kl_boxL (Lay.start w) rfl rfl rfl rfl rfl ?_
  intro g1 w1 hg1 hb1 hL1
  refine kl_zeroL hL1 typZero rfl rfl rfl rfl ?_
  intro g2 wa hg2 hb2 hLa
  have HLA := Lib.hid hLa
  have hT1 := Lib.hid (hT.keep (.of_below hLa.below))
  have C0 : wa.cell? ⟨g1, 0, none⟩ = some (.int .i64 t.kind) := hLa.get (cs := typC t FA fn fc) (j := 0) 1 rfl rfl
  have C1 : Hid (∀ W, Below wa.heap.size wa W → W.cell? ⟨g1, 1, none⟩ = some (.int .i64 t.elem)) := fun W h => Keeps.of_below h _ _ (hLa.get (cs := typC t FA fn fc) (j := 1) 1 rfl rfl)
  have C2 : Hid (∀ W, Below wa.heap.size wa W → W.cell? ⟨g1, 2, none⟩ = some (.int .i64 t.n)) := fun W h => Keeps.of_below h _ _ (hLa.get (cs := typC t FA fn fc) (j := 2) 1 rfl rfl)
  have C3 : Hid (∀ W, Below wa.heap.size wa W → W.cell? ⟨g1, 3, none⟩ = some (.slice FA fn fc)) := fun W h => Keeps.of_below h _ _ (hLa.get (cs := typC t FA fn fc) (j := 3) 1 rfl rfl)
  have HLAlt : g2 < wa.heap.size := hLa.lt 0 rfl
  have HLAsz : w.heap.size ≤ wa.heap.size := hLa.below.size
  clear hg1 hb1 hL1 hg2 hb2 hLa hT
  repeat (first | refine kw_seq ?_ | refine kw_region ?_ | refine kl_nil ?_ | refine kq_then ?_ | (first | refine kl_move rfl rfl (.inl rfl) rfl rfl ?_ | refine kl_move rfl rfl (.inr rfl) rfl rfl ?_ | refine kl_const rfl rfl (.inl rfl) rfl ?_ | refine kl_const rfl rfl (.inr rfl) rfl ?_) | ((first | refine kl_step rfl rfl rfl fun K hK => ?_ | refine kl_step0 rfl rfl rfl fun K hK => ?_); go_simp; (try go_bits); (first | refine hK _ _ ?_ | refine hK _ ?_); clear hK K))
  refine kl_call rfl rfl rfl Try.func76 rfl (by kernel_rfl) rfl ?_
  refine Calls.mono (within7_any t.kind 10 10 wa rfl (by omega) (by omega)) ?_
  rintro e _ ⟨rfl, rfl⟩
  refine ⟨_, rfl, ?_⟩
  have hw := within_lt t.kind 10 (by omega)
  obtain ⟨kw, hkw⟩ : ∃ kw, within t.kind 10 = kw := ⟨_, rfl⟩
  rw [hkw] at hw ⊢
  obtain ⟨kd, hkd⟩ : ∃ kd : Int, (1 : Int) + (kw : Int) = kd := ⟨_, rfl⟩
  have hk1 : 1 ≤ kd := by omega
  have hk2 : kd ≤ 10 := by omega
  clear hw hkw
  repeat (first | refine kl_build 71 _ _ rfl rfl rfl (by rfl) (by rfl) (typBuilt1 _) ?_ | (first | refine kl_move rfl rfl (.inl rfl) rfl rfl ?_ | refine kl_move rfl rfl (.inr rfl) rfl rfl ?_ | refine kl_const rfl rfl (.inl rfl) rfl ?_ | refine kl_const rfl rfl (.inr rfl) rfl ?_) | ((first | refine kl_step rfl rfl rfl fun K hK => ?_ | refine kl_step0 rfl rfl rfl fun K hK => ?_); go_simp; (try go_bits); (first | refine hK _ _ ?_ | refine hK _ ?_); clear hK K))
  clear hkd C0
  refine kl_zeroL (Lay.start wa) typZero rfl rfl rfl rfl ?_
  intro g3 wb hg3 hb3 hLb
  clear hg3 hb3
  refine kl_putL (cells := (typC ⟨kd, 0, 0, []⟩ none 0 0).toArray) hLb 0 rfl (typ_info _ _ _ _) rfl (typC_agg _ _ _ _) rfl rfl rfl rfl rfl (fun hLc => ?_)
  generalize wb.setRow g3 (typC ⟨kd, 0, 0, []⟩ none 0 0).toArray = wc at hLc ⊢
  replace hLc : Lay wa wc [(g3, (typC ⟨kd, 0, 0, []⟩ none 0 0).toArray, 71)] := hLc
  clear hLb
  have c0 : wc.cell? ⟨g3, 0, none⟩ = some (.int .i64 kd) := hLc.get (cs := typC ⟨kd, 0, 0, []⟩ none 0 0) (j := 0) 0 rfl rfl
  have HLC := Lib.hid hLc
  clear hLc
  repeat (first | refine kw_seq ?_ | refine kw_region ?_ | refine kl_nil ?_ | refine kq_then ?_ | (first | refine kl_move rfl rfl (.inl rfl) rfl rfl ?_ | refine kl_move rfl rfl (.inr rfl) rfl rfl ?_ | refine kl_const rfl rfl (.inl rfl) rfl ?_ | refine kl_const rfl rfl (.inr rfl) rfl ?_) | ((first | refine kl_step rfl rfl rfl fun K hK => ?_ | refine kl_step0 rfl rfl rfl fun K hK => ?_); go_simp; (try go_bits); (first | refine hK _ _ ?_ | refine hK _ ?_); clear hK K))
  refine KW.less [1, 2, 3, 12] ?_
  simp only [nrm, lk, Nat.reduceBEq, cond_true, cond_false]
  refine kw_cutq (fun L W => ∃ x FA fn fc, Hid (GoodM wa W g3 x FA fn fc) ∧ L = [(2, .pointer (some ⟨g2, 0, none⟩)), (3, .pointer (some ⟨g3, 0, none⟩))]) ?_ ?_
  rotate_left
  · rintro L W ⟨x, FA, fn, fc, hM, rfl⟩
    have hL2 := Lib.hid (HLA.out.next hM.out.lay.below)
    clear HLA HLC hT1 C1 C2 C3 c0
    repeat (first | refine kw_seq ?_ | refine kw_region ?_ | refine kl_nil ?_ | refine kq_then ?_ | refine kl_getL hM.out.lay 0 rfl Try.underlying71 rfl (typ_info _ _ _ _) rfl rfl rfl rfl rfl ?_ | (first | refine kl_move rfl rfl (.inl rfl) rfl rfl ?_ | refine kl_move rfl rfl (.inr rfl) rfl rfl ?_ | refine kl_const rfl rfl (.inl rfl) rfl ?_ | refine kl_const rfl rfl (.inr rfl) rfl ?_))
    refine kl_putL (cells := (typC x FA fn fc).toArray) hL2.out 0 rfl (typ_info _ _ _ _) rfl (typC_agg _ _ _ _) rfl rfl rfl rfl rfl (fun hL3 => ?_)
    have hM3 : TypM (W.setRow g2 (typC x FA fn fc).toArray) x FA fn fc := ⟨hM.out.mem.row.grown (grown_row W g2 _) (fun _ a e => by
      have h1 := hM.out.far a e
      have h2 := HLAlt
      omega), hM.out.mem.le, hM.out.mem.cap⟩
    generalize W.setRow g2 (typC x FA fn fc).toArray = W3 at hL3 hM3 ⊢
    repeat (first | refine kw_seq ?_ | refine kw_block ?_ | refine kw_skip ?_ | refine kw_region ?_ | refine kl_nil ?_ | refine kq_then ?_ | refine kq_block ?_ | refine kw_exit ?_ | refine kq_then_exit ?_ | refine kq_block_here rfl ?_ | refine kq_block_far rfl ?_ | refine kq_again_exit ?_ | refine kw_ret ?_ | refine kq_then_ret ?_ | refine kq_block_ret ?_ | refine kq_again_ret ?_ | refine kw_ift rfl ?_ | refine kw_iff rfl ?_ | refine kl_ung rfl rfl ?_ | refine kl_skipg rfl rfl rfl rfl ?_ | refine kl_skipg0 rfl rfl rfl ?_ | (first | refine kl_move rfl rfl (.inl rfl) rfl rfl ?_ | refine kl_move rfl rfl (.inr rfl) rfl rfl ?_ | refine kl_const rfl rfl (.inl rfl) rfl ?_ | refine kl_const rfl rfl (.inr rfl) rfl ?_) | ((first | refine kl_step rfl rfl rfl fun K hK => ?_ | refine kl_step0 rfl rfl rfl fun K hK => ?_); go_simp; (try go_bits); (first | refine hK _ _ ?_ | refine hK _ ?_); clear hK K))
    refine kq_retv (fun a k => results_cell_row rfl _ _ g2 71 (typC x FA fn fc).toArray (0, 0) _ (k.slot 2 rfl) (hL3.at_ 0 rfl) Try.underlying71 rfl (typ_info _ _ _ _)) ?_
    exact ⟨x, FA, fn, fc, rfl, hM.out.ok, hM3, hL3.below, fun a e => Nat.le_trans HLAsz (hM.out.far a e)⟩
  refine kw_block ?_
  by_cases d7 : kd = 7
  · have q7 : (kd == 7) = true := beq_iff_eq.2 d7
    repeat (first | refine kw_seq ?_ | refine kw_region ?_ | refine kl_nil ?_ | refine kq_then ?_ | refine kq_block ?_ | refine kw_ift rfl ?_ | refine kw_iff rfl ?_ | refine kw_skip ?_ | refine kl_ung rfl rfl ?_ | refine kl_skipg rfl rfl rfl rfl ?_ | (first | refine kl_move rfl rfl (.inl rfl) rfl rfl ?_ | refine kl_move rfl rfl (.inr rfl) rfl rfl ?_ | refine kl_const rfl rfl (.inl rfl) rfl ?_ | refine kl_const rfl rfl (.inr rfl) rfl ?_) | ((first | refine kl_step rfl rfl rfl fun K hK => ?_ | refine kl_step0 rfl rfl rfl fun K hK => ?_); go_simp; (try go_bits); (first | refine hK _ _ ?_ | refine hK _ ?_); clear hK K))
    clear q7 c0
    subst d7
    have r1 := C1.out
    have r2 := C2.out
    have hR : Below wa.heap.size wa wc.drew := HLC.out.below.drew
    have hLd := HLC.out.next ((Below.refl wc.heap.size wc).drew)
    clear HLC
    refine kw_region_f (Below wa.heap.size wa) [true, true, false, true, true, true, false, true, true, false, true, false] (by kernel_rfl) (by kernel_rfl) hR ?_
    generalize wc.drew = wd at *
    repeat (first | refine kf_nil ?_ | refine kf_ung rfl rfl ?_ | refine kf_skipg rfl rfl rfl rfl ?_ | (first | refine kf_move rfl rfl (.inl rfl) rfl rfl ?_ | refine kf_move rfl rfl (.inr rfl) rfl rfl ?_ | refine kf_const rfl rfl (.inl rfl) rfl ?_ | refine kf_const rfl rfl (.inr rfl) rfl ?_) | (refine kf_val rfl rfl rfl ?_; apply Exists.intro; refine And.intro (fun W hW N hN => ?_) ?_; · (go_simp; (try go_bits); exact hN)))
    refine kf_ch ?_
    refine kl_call rfl rfl rfl Try.func76 rfl (by kernel_rfl) rfl ?_
    refine Calls.mono (within7_any t.elem 6 6 wd rfl (by omega) (by omega)) ?_
    rintro e _ ⟨rfl, rfl⟩
    refine ⟨_, rfl, ?_⟩
    have hw := within_lt t.elem 6 (by omega)
    obtain ⟨ew, hew⟩ : ∃ ew, within t.elem 6 = ew := ⟨_, rfl⟩
    rw [hew] at hw ⊢
    obtain ⟨ed, hed⟩ : ∃ ed : Int, (1 : Int) + (ew : Int) = ed := ⟨_, rfl⟩
    have HED : Hid (1 ≤ ed ∧ ed ≤ 6) := by show _ ∧ _; omega
    have e1 : (ew : Int) ≤ 5 := by omega
    clear hw hew
    refine kl_nil ?_
    refine kq_f hR ?_
    repeat (first | refine kf_nil ?_ | refine kf_ung rfl rfl ?_ | refine kf_skipg rfl rfl rfl rfl ?_ | (first | refine kf_move rfl rfl (.inl rfl) rfl rfl ?_ | refine kf_move rfl rfl (.inr rfl) rfl rfl ?_ | refine kf_const rfl rfl (.inl rfl) rfl ?_ | refine kf_const rfl rfl (.inr rfl) rfl ?_) | (refine kf_val rfl rfl rfl ?_; apply Exists.intro; refine And.intro (fun W hW N hN => ?_) ?_; · (go_simp; (try go_bits); exact hN)))
    refine kf_ch ?_
    refine kl_call rfl rfl rfl Try.func76 rfl (by kernel_rfl) rfl ?_
    refine Calls.mono (within7_any t.n 8 8 wd rfl (by omega) (by omega)) ?_
    rintro e _ ⟨rfl, rfl⟩
    refine ⟨_, rfl, ?_⟩
    have hw := within_lt t.n 8 (by omega)
    obtain ⟨nw, hnw⟩ : ∃ nw, within t.n 8 = nw := ⟨_, rfl⟩
    rw [hnw] at hw ⊢
    obtain ⟨nd, hnd⟩ : ∃ nd : Int, (1 : Int) + (nw : Int) = nd := ⟨_, rfl⟩
    have HND : Hid (1 ≤ nd ∧ nd ≤ 8) := by show _ ∧ _; omega
    have e2 : (nw : Int) ≤ 7 := by omega
    clear hw hnw
    refine kl_nil ?_
    refine kq_f hR ?_
    repeat (first | refine kf_nil ?_ | refine kf_ung rfl rfl ?_ | refine kf_skipg rfl rfl rfl rfl ?_ | (first | refine kf_move rfl rfl (.inl rfl) rfl rfl ?_ | refine kf_move rfl rfl (.inr rfl) rfl rfl ?_ | refine kf_const rfl rfl (.inl rfl) rfl ?_ | refine kf_const rfl rfl (.inr rfl) rfl ?_) | (refine kf_val rfl rfl rfl ?_; apply Exists.intro; refine And.intro (fun W hW N hN => ?_) ?_; · (go_simp; (try go_bits); exact hN)))
    clear hed hnd e1 e2 r1 r2
    have c1 : wd.cell? ⟨g3, 1, none⟩ = some (.int .i64 0) := hLd.get (cs := typC ⟨7, 0, 0, []⟩ none 0 0) (j := 1) 0 rfl rfl
    have f1 := hLd.free 0 rfl 1
    have hLe : Lay wa (wd.setCell ⟨g3, 1, none⟩ (.int .i64 ed)) [(g3, (typC ⟨7, ed, 0, []⟩ none 0 0).toArray, 71)] := hLd.cell (cs := typC ⟨7, 0, 0, []⟩ none 0 0) 0 rfl 1 (.int .i64 ed)
    refine kf_ch ?_
    (first | ((first | refine kl_step rfl rfl rfl fun K hK => ?_ | refine kl_step0 rfl rfl rfl fun K hK => ?_); go_simp; (try go_bits); (first | refine hK _ _ ?_ | refine hK _ ?_); clear hK K))
    clear c1 f1 hLd hR
    generalize wd.setCell ⟨g3, 1, none⟩ (.int .i64 ed) = we at hLe ⊢
    have hR := hLe.below
    refine kl_nil ?_
    refine kq_f hR ?_
    repeat (first | refine kf_nil ?_ | refine kf_ung rfl rfl ?_ | refine kf_skipg rfl rfl rfl rfl ?_ | (first | refine kf_move rfl rfl (.inl rfl) rfl rfl ?_ | refine kf_move rfl rfl (.inr rfl) rfl rfl ?_ | refine kf_const rfl rfl (.inl rfl) rfl ?_ | refine kf_const rfl rfl (.inr rfl) rfl ?_) | (refine kf_val rfl rfl rfl ?_; apply Exists.intro; refine And.intro (fun W hW N hN => ?_) ?_; · (go_simp; (try go_bits); exact hN)))
    have c2 : we.cell? ⟨g3, 2, none⟩ = some (.int .i64 0) := hLe.get (cs := typC ⟨7, ed, 0, []⟩ none 0 0) (j := 2) 0 rfl rfl
    have f2 := hLe.free 0 rfl 2
    have hLf : Lay wa (we.setCell ⟨g3, 2, none⟩ (.int .i64 nd)) [(g3, (typC ⟨7, ed, nd, []⟩ none 0 0).toArray, 71)] := hLe.cell (cs := typC ⟨7, ed, 0, []⟩ none 0 0) 0 rfl 2 (.int .i64 nd)
    refine kf_ch ?_
    (first | ((first | refine kl_step rfl rfl rfl fun K hK => ?_ | refine kl_step0 rfl rfl rfl fun K hK => ?_); go_simp; (try go_bits); (first | refine hK _ _ ?_ | refine hK _ ?_); clear hK K))
    clear c2 f2 hLe hR
    generalize we.setCell ⟨g3, 2, none⟩ (.int .i64 nd) = wf at hLf ⊢
    refine kl_nil ?_
    refine kq_f hLf.below ?_
    repeat (first | refine kf_nil ?_ | refine kf_ung rfl rfl ?_ | refine kf_skipg rfl rfl rfl rfl ?_ | (first | refine kf_move rfl rfl (.inl rfl) rfl rfl ?_ | refine kf_move rfl rfl (.inr rfl) rfl rfl ?_ | refine kf_const rfl rfl (.inl rfl) rfl ?_ | refine kf_const rfl rfl (.inr rfl) rfl ?_) | (refine kf_val rfl rfl rfl ?_; apply Exists.intro; refine And.intro (fun W hW N hN => ?_) ?_; · (go_simp; (try go_bits); exact hN)))
    repeat (first | refine kw_seq ?_ | refine kw_block ?_ | refine kw_region ?_ | refine kl_nil ?_ | refine kq_then ?_ | refine kq_block ?_ | refine kw_ift rfl ?_ | refine kw_iff rfl ?_ | refine kw_skip ?_ | refine kw_exit ?_ | refine kq_then_exit ?_ | refine kq_block_here rfl ?_ | refine kq_again_exit ?_ | refine kl_ung rfl rfl ?_ | refine kl_skipg rfl rfl rfl rfl ?_ | (first | refine kl_move rfl rfl (.inl rfl) rfl rfl ?_ | refine kl_move rfl rfl (.inr rfl) rfl rfl ?_ | refine kl_const rfl rfl (.inl rfl) rfl ?_ | refine kl_const rfl rfl (.inr rfl) rfl ?_) | ((first | refine kl_step rfl rfl rfl fun K hK => ?_ | refine kl_step0 rfl rfl rfl fun K hK => ?_); go_simp; (try go_bits); (first | refine hK _ _ ?_ | refine hK _ ?_); clear hK K))
    refine kq_cut [2, 3] ?_
    exact ⟨_, none, 0, 0, GoodM.bare (typ_arr ed nd HED.out HND.out) rfl hLf, rfl⟩
  have q7 : (kd == 7) = false := beq_eq_false_iff_ne.2 d7
  by_cases d8 : kd = 8
  case neg =>
    have q8 : (kd == 8) = false := beq_eq_false_iff_ne.2 d8
    repeat (first | refine kw_seq ?_ | refine kw_block ?_ | refine kw_region ?_ | refine kl_nil ?_ | refine kq_then ?_ | refine kq_block ?_ | refine kw_ift rfl ?_ | refine kw_iff rfl ?_ | refine kw_skip ?_ | refine kw_exit ?_ | refine kq_then_exit ?_ | refine kq_block_here rfl ?_ | refine kq_again_exit ?_ | refine kl_ung rfl rfl ?_ | refine kl_skipg rfl rfl rfl rfl ?_ | (first | refine kl_move rfl rfl (.inl rfl) rfl rfl ?_ | refine kl_move rfl rfl (.inr rfl) rfl rfl ?_ | refine kl_const rfl rfl (.inl rfl) rfl ?_ | refine kl_const rfl rfl (.inr rfl) rfl ?_) | ((first | refine kl_step rfl rfl rfl fun K hK => ?_ | refine kl_step0 rfl rfl rfl fun K hK => ?_); go_simp; (try go_bits); (first | refine hK _ _ ?_ | refine hK _ ?_); clear hK K))
    refine kq_cut [2, 3] ?_
    exact ⟨_, none, 0, 0, GoodM.bare (typ_bare kd ⟨hk1, hk2⟩ d7 d8) rfl HLC.out, rfl⟩
  have q8 : (kd == 8) = true := beq_iff_eq.2 d8
  repeat (first | refine kw_seq ?_ | refine kw_region ?_ | refine kl_nil ?_ | refine kq_then ?_ | refine kq_block ?_ | refine kw_ift rfl ?_ | refine kw_iff rfl ?_ | refine kw_skip ?_ | refine kl_ung rfl rfl ?_ | refine kl_skipg rfl rfl rfl rfl ?_ | (first | refine kl_move rfl rfl (.inl rfl) rfl rfl ?_ | refine kl_move rfl rfl (.inr rfl) rfl rfl ?_ | refine kl_const rfl rfl (.inl rfl) rfl ?_ | refine kl_const rfl rfl (.inr rfl) rfl ?_) | ((first | refine kl_step rfl rfl rfl fun K hK => ?_ | refine kl_step0 rfl rfl rfl fun K hK => ?_); go_simp; (try go_bits); (first | refine hK _ _ ?_ | refine hK _ ?_); clear hK K))
  clear q7 q8 d7 hk1 hk2 c0
  subst d8
  have hM0 : Hid (FsM wa wc g3 (.slice none 0 0) 0 []) := ⟨HLC.out, World.ownsRow_nil _ _ _ _, by simp [Value.ownBlock]⟩
  clear HLC
  obtain ⟨nw, hnw⟩ : ∃ nw, within t.n 4 = nw := ⟨_, rfl⟩
  obtain ⟨nf, hnf⟩ : ∃ nf, 1 + nw = nf := ⟨_, rfl⟩
  have hnw4 := within_lt t.n 4 (by omega)
  have HN : Hid (within t.n 4 = nw) := hnw
  have n1 : (1 : Int) + (nw : Int) = (nf : Int) := by omega
  have HNF : Hid (1 ≤ nf ∧ nf ≤ 4) := by show _ ∧ _; omega
  have n2 : (nw : Int) ≤ 3 := by omega
  clear hnw hnf hnw4
  refine KW.less [1, 2, 3, 4] ?_
  simp only [nrm, lk, Nat.reduceBEq, cond_true, cond_false]
  refine kw_block ?_
  refine kw_loop (fun mm L W => ∃ (k : Nat) (v : Value) (fs : List FldV), k ≤ nf ∧ mm = nf - k ∧ Hid (FsM wa W g3 v k fs) ∧ Hid (FsOk k fs) ∧ L = [(1, .pointer (some ⟨g1, 0, none⟩)), (2, .pointer (some ⟨g2, 0, none⟩)), (3, .pointer (some ⟨g3, 0, none⟩)), (4, .int .i64 (k : Int))]) ⟨0, .slice none 0 0, [], by omega, rfl, hM0, FsOk.nil, rfl⟩ ?_
  clear hM0
  rintro mm L W ⟨k, v, fs, hk, rfl, hM, hF, rfl⟩
  have c2 := C2.out W hM.out.lay.below
  repeat (first | refine kw_seq ?_ | refine kw_block ?_ | refine kw_region ?_ | refine kl_nil ?_ | refine kq_then ?_ | (first | refine kl_move rfl rfl (.inl rfl) rfl rfl ?_ | refine kl_move rfl rfl (.inr rfl) rfl rfl ?_ | refine kl_const rfl rfl (.inl rfl) rfl ?_ | refine kl_const rfl rfl (.inr rfl) rfl ?_) | ((first | refine kl_step rfl rfl rfl fun K hK => ?_ | refine kl_step0 rfl rfl rfl fun K hK => ?_); go_simp; (try go_bits); (first | refine hK _ _ ?_ | refine hK _ ?_); clear hK K))
  refine kl_call rfl rfl rfl Try.func76 rfl (by kernel_rfl) rfl ?_
  refine Calls.mono (within7_any t.n 4 4 W rfl (by omega) (by omega)) ?_
  rintro e _ ⟨rfl, rfl⟩
  refine ⟨_, rfl, ?_⟩
  rw [HN.out]
  clear c2
  by_cases hlt : k < nf
  case neg =>
    obtain rfl : nf = k := by omega
    have t1 : decide ((nf : Int) < (nf : Int)) = false := by simp
    have t1n : decide (nf < nf) = false := by simp
    obtain ⟨FA2, fc2, hG⟩ := hM.out.good hF.out HNF.out.1 HNF.out.2
    clear hlt hk
    repeat (first | refine kw_seq ?_ | refine kw_block ?_ | refine kw_region ?_ | refine kl_nil ?_ | refine kq_then ?_ | refine kq_block ?_ | refine kw_ift rfl ?_ | refine kw_iff rfl ?_ | refine kw_skip ?_ | refine kw_exit ?_ | refine kq_then_exit ?_ | refine kq_block_here rfl ?_ | refine kq_again_exit ?_ | refine kl_ung rfl rfl ?_ | refine kl_skipg rfl rfl rfl rfl ?_ | (first | refine kl_move rfl rfl (.inl rfl) rfl rfl ?_ | refine kl_move rfl rfl (.inr rfl) rfl rfl ?_ | refine kl_const rfl rfl (.inl rfl) rfl ?_ | refine kl_const rfl rfl (.inr rfl) rfl ?_) | ((first | refine kl_step rfl rfl rfl fun K hK => ?_ | refine kl_step0 rfl rfl rfl fun K hK => ?_); go_simp; (try go_bits); (first | refine hK _ _ ?_ | refine hK _ ?_); clear hK K))
    refine kq_cut [2, 3] ?_
    exact ⟨_, FA2, nf, fc2, hG, rfl⟩
  have t1 : decide ((k : Int) < (nf : Int)) = true := by rw [decide_eq_true_eq]; omega
  have t1n : decide (k < nf) = true := decide_eq_true hlt
  have c1 := C1.out W hM.out.lay.below
  have c3 := C3.out W hM.out.lay.below
  obtain ⟨nk, hnk⟩ : ∃ nk, k + 1 = nk := ⟨_, rfl⟩
  have k1 : (k : Int) + 1 = (nk : Int) := by omega
  have k2 : (0 : Int) ≤ nk := by omega
  have k3 : (nk : Int) ≤ 4 := by have := HNF.out; omega
  have k4 : (0 : Int) ≤ k := by omega
  have HK := Lib.hid (And.intro hnk (And.intro hlt (show k < 4 by have := HNF.out; omega)))
  clear hlt hk hnk
  obtain ⟨qb, hqb⟩ : ∃ qb, decide ((k : Int) < (fn : Int)) = qb := ⟨_, rfl⟩
  have hqn : decide (k < fn) = qb := by rw [← hqb]; simp
  have hfl : (fn : Int) ≤ 9223372036854775807 := by have := hT1.out.le; have := hT1.out.cap; omega
  repeat (first | refine kw_seq ?_ | refine kw_block ?_ | refine kw_region ?_ | refine kl_nil ?_ | refine kq_then ?_ | refine kq_block ?_ | refine kw_ift rfl ?_ | refine kw_iff rfl ?_ | refine kw_skip ?_ | refine kl_ung rfl rfl ?_ | refine kl_skipg rfl rfl rfl rfl ?_ | (first | refine kl_move rfl rfl (.inl rfl) rfl rfl ?_ | refine kl_move rfl rfl (.inr rfl) rfl rfl ?_ | refine kl_const rfl rfl (.inl rfl) rfl ?_ | refine kl_const rfl rfl (.inr rfl) rfl ?_) | ((first | refine kl_step rfl rfl rfl fun K hK => ?_ | refine kl_step0 rfl rfl rfl fun K hK => ?_); go_simp; (try go_bits); (first | refine hK _ _ ?_ | refine hK _ ?_); clear hK K))
  refine KW.less [1, 2, 3, 4, 5, 43] ?_
  simp only [nrm, lk, Nat.reduceBEq, cond_true, cond_false]
  refine kw_cutq (fun L W' => ∃ z : Int, W = W' ∧ L = [(1, .pointer (some ⟨g1, 0, none⟩)), (2, .pointer (some ⟨g2, 0, none⟩)), (3, .pointer (some ⟨g3, 0, none⟩)), (4, .int .i64 (k : Int)), (5, .int .i64 z)]) ?_ ?_
  · cases qb
    case false =>
      refine kw_iff rfl ?_
      refine kw_skip ?_
      refine kq_cut [1, 2, 3, 4, 5] ?_
      exact ⟨_, rfl, rfl⟩
    have hkf : k < fn := of_decide_eq_true hqn
    have u1 : (k : Int) < fn := by omega
    obtain ⟨gF, oF, f, rfl, hr, _, hx⟩ := hT1.out.row.next hkf
    have c4 : W.cell? ⟨gF, oF + k * 2 + 1, none⟩ = some (.int .i64 f.kind) := Keeps.of_below hM.out.lay.below _ _ (hr 1 _ rfl)
    clear hr hx hqb hqn hkf
    refine kw_ift rfl ?_
    repeat (first | refine kw_seq ?_ | refine kw_block ?_ | refine kw_region ?_ | refine kl_nil ?_ | refine kq_then ?_ | refine kq_block ?_ | refine kw_ift rfl ?_ | refine kw_iff rfl ?_ | refine kw_skip ?_ | refine kl_ung rfl rfl ?_ | refine kl_skipg rfl rfl rfl rfl ?_ | (first | refine kl_move rfl rfl (.inl rfl) rfl rfl ?_ | refine kl_move rfl rfl (.inr rfl) rfl rfl ?_ | refine kl_const rfl rfl (.inl rfl) rfl ?_ | refine kl_const rfl rfl (.inr rfl) rfl ?_) | ((first | refine kl_step rfl rfl rfl fun K hK => ?_ | refine kl_step0 rfl rfl rfl fun K hK => ?_); go_simp; (try go_bits); (first | refine hK _ _ ?_ | refine hK _ ?_); clear hK K))
    refine kq_cut [1, 2, 3, 4, 5] ?_
    exact ⟨_, rfl, rfl⟩
  clear c1 c3 hqb hqn hfl t1 t1n
  rintro L W ⟨z, rfl, rfl⟩
  repeat (first | refine kw_seq ?_ | refine kw_region ?_ | refine kl_nil ?_ | refine kq_then ?_)
  refine KW.less [1, 2, 3, 4, 5] ?_
  simp only [nrm, lk, Nat.reduceBEq, cond_true, cond_false]
  obtain ⟨q, hq⟩ : ∃ q, 48 + k = q := ⟨_, rfl⟩
  have q1 : (48 : Int) + (k : Int) = (q : Int) := by omega
  have q2 : (0 : Int) ≤ q := by omega
  have q3 : (q : Int) ≤ 51 := by have := HK.out; omega
  have q5 : IntKind.u8.wrap (q : Int) = (q : Int) := by show (q : Int) % 256 = _; have := HK.out; omega
  have Q4 := Lib.hid (u8_48k q k hq (by have := HK.out; omega))
  clear hq
  have hw := within_lt z 6 (by omega)
  obtain ⟨zw, hzw⟩ : ∃ zw, within z 6 = zw := ⟨_, rfl⟩
  obtain ⟨zd, hzd⟩ : ∃ zd : Int, (1 : Int) + (zw : Int) = zd := ⟨_, rfl⟩
  have HZW : Hid (within z 6 = zw) := hzw
  rw [hzw] at hw
  have HF1 := Lib.hid (hF.out.next zd (by omega))
  have e2 : (zw : Int) ≤ 5 := by omega
  clear hzw hw
  obtain ⟨u, hu⟩ : ∃ u, UInt8.ofNat (48 + k) = u := ⟨_, rfl⟩
  rw [hu] at Q4
  have HNM : Hid (fName k = [102, u]) := by show _ = _; unfold fName; rw [hu]
  clear hu
  have hM1 := hM.out.next ((Below.refl W.heap.size W).drew)
  have hR := hM1.r
  have r3 : ∀ W, R7 wa g3 v W → W.cell? ⟨g3, 3, none⟩ = some v := fun W h => h.2
  have kcat : ((⟨#[102]⟩ : ByteArray) ++ ⟨[u].toArray⟩) = ⟨[102, u].toArray⟩ := rfl
  clear hM C1 C2 C3
  refine kw_region_z (R7 wa g3 v) 15 [true, true, true, true, true, false, false, true, true, false, true, true, false, false, true, false] (by kernel_rfl) (by kernel_rfl) (by kernel_rfl) hR ?_
  generalize W.drew = v0 at *
  clear W
  refine kz_seg [0, 1, 2, 3, 4, 8] [5, 6, 7, 9, 10, 11, 12, 13, 14, 15] (by kernel_rfl) ?_
  simp only [pickO, pickF, nthO, nthB]
  repeat (first | refine kf_nil ?_ | refine kf_ung rfl rfl ?_ | refine kf_skipg rfl rfl rfl rfl ?_ | (first | refine kf_move rfl rfl (.inl rfl) rfl rfl ?_ | refine kf_move rfl rfl (.inr rfl) rfl rfl ?_ | refine kf_const rfl rfl (.inl rfl) rfl ?_ | refine kf_const rfl rfl (.inr rfl) rfl ?_) | (refine kf_val rfl rfl rfl ?_; apply Exists.intro; refine And.intro (fun W hW N hN => ?_) ?_; · (go_simp; (try go_bits); exact hN)))
  refine kz_more ?_
  refine kz_fork2 5 9 (by kernel_rfl) ?_ ?_
  all_goals simp only [pickO, pickF, nthO, nthB]
  · refine kf_ch ?_
    (first | ((first | refine kl_step rfl rfl rfl fun K hK => ?_ | refine kl_step0 rfl rfl rfl fun K hK => ?_); go_simp; (try go_bits); (first | refine hK _ _ ?_ | refine hK _ ?_); clear hK K))
    have hb := (Below.refl v0.heap.size v0).alloc (Nat.le_refl _) (.cells #[.int .u8 (q : Int)] 5)
    have hBs : Bs (v0.alloc (.cells #[.int .u8 (q : Int)] 5)) (some ⟨v0.heap.size, 0, none⟩) 1 [u] := Bs.lit 5 rfl _ rfl (by rw [Q4.out]; simp [bv, u8n]; omega)
    replace hM1 := hM1.next hb
    have kc := convB (c := 1) hBs
    clear hb hBs hR
    have hR := hM1.r
    generalize v0.heap.size = gb at *
    generalize v0.alloc (.cells #[.int .u8 (q : Int)] 5) = v1 at *
    refine kl_nil ?_
    refine kq_f hR ?_
    repeat (first | refine kf_nil ?_ | refine kf_ung rfl rfl ?_ | refine kf_skipg rfl rfl rfl rfl ?_ | (first | refine kf_move rfl rfl (.inl rfl) rfl rfl ?_ | refine kf_move rfl rfl (.inr rfl) rfl rfl ?_ | refine kf_const rfl rfl (.inl rfl) rfl ?_ | refine kf_const rfl rfl (.inr rfl) rfl ?_) | (refine kf_val rfl rfl rfl ?_; apply Exists.intro; refine And.intro (fun W hW N hN => ?_) ?_; · (go_simp; (try go_bits); exact hN)))
    refine kz_more ?_
    refine kz_fork2 6 9 (by kernel_rfl) ?_ ?_
    all_goals simp only [pickO, pickF, nthO, nthB]
    · refine kf_ch ?_
      (first | ((first | refine kl_step rfl rfl rfl fun K hK => ?_ | refine kl_step0 rfl rfl rfl fun K hK => ?_); go_simp; (try go_bits); (first | refine hK _ _ ?_ | refine hK _ ?_); clear hK K))
      clear kc
      refine kl_nil ?_
      refine kq_f hR ?_
      repeat (first | refine kf_nil ?_ | refine kf_ung rfl rfl ?_ | refine kf_skipg rfl rfl rfl rfl ?_ | (first | refine kf_move rfl rfl (.inl rfl) rfl rfl ?_ | refine kf_move rfl rfl (.inr rfl) rfl rfl ?_ | refine kf_const rfl rfl (.inl rfl) rfl ?_ | refine kf_const rfl rfl (.inr rfl) rfl ?_) | (refine kf_val rfl rfl rfl ?_; apply Exists.intro; refine And.intro (fun W hW N hN => ?_) ?_; · (go_simp; (try go_bits); exact hN)))
      refine kz_more ?_
      refine kz_seg [7, 9, 10, 11, 12, 13, 14] [15] (by kernel_rfl) ?_
      simp only [pickO, pickF, nthO, nthB]
      repeat (first | refine kf_nil ?_ | refine kf_ung rfl rfl ?_ | refine kf_skipg rfl rfl rfl rfl ?_ | (first | refine kf_move rfl rfl (.inl rfl) rfl rfl ?_ | refine kf_move rfl rfl (.inr rfl) rfl rfl ?_ | refine kf_const rfl rfl (.inl rfl) rfl ?_ | refine kf_const rfl rfl (.inr rfl) rfl ?_) | (refine kf_val rfl rfl rfl ?_; apply Exists.intro; refine And.intro (fun W hW N hN => ?_) ?_; · (go_simp; (try go_bits); exact hN)))
      refine kf_ch ?_
      refine kl_call rfl rfl rfl Try.func76 rfl (by kernel_rfl) rfl ?_
      refine Calls.mono (within7_any z 6 6 v1 rfl (by omega) (by omega)) ?_
      rintro e _ ⟨rfl, rfl⟩
      refine ⟨_, rfl, ?_⟩
      rw [HZW.out]
      refine kl_nil ?_
      refine kq_f hR ?_
      repeat (first | refine kf_nil ?_ | refine kf_ung rfl rfl ?_ | refine kf_skipg rfl rfl rfl rfl ?_ | (first | refine kf_move rfl rfl (.inl rfl) rfl rfl ?_ | refine kf_move rfl rfl (.inr rfl) rfl rfl ?_ | refine kf_const rfl rfl (.inl rfl) rfl ?_ | refine kf_const rfl rfl (.inr rfl) rfl ?_) | (refine kf_val rfl rfl rfl ?_; apply Exists.intro; refine And.intro (fun W hW N hN => ?_) ?_; · (go_simp; (try go_bits); exact hN)))
      refine kf_ch ?_
      refine kl_buildSlice_row (z := fldC fldZ) (cs := fldC ⟨[102, u], zd⟩) Try.underlying69 fldZero fldSize rfl (by omega) (by omega) rfl rfl rfl rfl rfl ?_
      have hr := rangeAt_new v1 (fldC ⟨[102, u], zd⟩).toArray 118 v1.heap.size rfl
      replace hM1 := hM1.lit (fldC ⟨[102, u], zd⟩).toArray 118
      clear hR
      have hR := hM1.r
      generalize v1.heap.size = gf at *
      generalize v1.alloc (.cells (fldC ⟨[102, u], zd⟩).toArray 118) = w7 at *
      refine kl_nil ?_
      refine kq_f hR ?_
      repeat (first | refine kf_nil ?_ | refine kf_ung rfl rfl ?_ | refine kf_skipg rfl rfl rfl rfl ?_ | (first | refine kf_move rfl rfl (.inl rfl) rfl rfl ?_ | refine kf_move rfl rfl (.inr rfl) rfl rfl ?_ | refine kf_const rfl rfl (.inl rfl) rfl ?_ | refine kf_const rfl rfl (.inr rfl) rfl ?_) | (refine kf_val rfl rfl rfl ?_; apply Exists.intro; refine And.intro (fun W hW N hN => ?_) ?_; · (go_simp; (try go_bits); exact hN)))
      refine kf_ch ?_
      refine kl_appendN 69 118 _ 2 24 Try.underlying69 fldInfo3 rfl (by omega) wa.heap.size v k (flatR fldE fs) hM1.own gf 0 1 1 (fldC ⟨[102, u], zd⟩) rfl hr (fldC_one _) (by have := HK.out; omega) (by have := HK.out; omega) hM1.lay.below.size rfl rfl rfl rfl rfl rfl ?_
      intro v8 w8 ho8 hg8 hv8
      rw [show flatR fldE fs ++ fldC ⟨[102, u], zd⟩ = flatR fldE (fs ++ [⟨fName k, zd⟩]) by rw [flatR_snoc, HNM.out]; rfl, HK.out.1] at ho8
      obtain ⟨b8, cc8, rfl, _⟩ := own_formC ho8 (by have := HK.out; omega)
      obtain ⟨hl8, ho8, hne8⟩ := hM1.app ho8 hg8 hv8
      have c8 : w8.cell? ⟨g3, 3, none⟩ = some v := hl8.get (cs := [.int .i64 8, .int .i64 0, .int .i64 0, v]) (j := 3) 0 rfl rfl
      have f8 := hl8.free 0 rfl 3
      have hM9 := Lib.hid (FsM.store hl8 ho8 hne8)
      have hR8 : R7 wa g3 v w8 := ⟨hl8.below, c8⟩
      clear hr hg8 hv8 hM1 hR hl8 ho8 hne8
      refine kl_nil ?_
      refine kq_f hR8 ?_
      repeat (first | refine kf_nil ?_ | refine kf_ung rfl rfl ?_ | refine kf_skipg rfl rfl rfl rfl ?_ | (first | refine kf_move rfl rfl (.inl rfl) rfl rfl ?_ | refine kf_move rfl rfl (.inr rfl) rfl rfl ?_ | refine kf_const rfl rfl (.inl rfl) rfl ?_ | refine kf_const rfl rfl (.inr rfl) rfl ?_) | (refine kf_val rfl rfl rfl ?_; apply Exists.intro; refine And.intro (fun W hW N hN => ?_) ?_; · (go_simp; (try go_bits); exact hN)))
      refine kz_more ?_
      clear r3 hR8
      refine kz_last rfl rfl ?_
      (first | ((first | refine kl_step rfl rfl rfl fun K hK => ?_ | refine kl_step0 rfl rfl rfl fun K hK => ?_); go_simp; (try go_bits); (first | refine hK _ _ ?_ | refine hK _ ?_); clear hK K))
      clear c8 f8
      generalize w8.setCell ⟨g3, 3, none⟩ (.slice (some ⟨b8, 0, none⟩) nk cc8) = w9 at hM9 ⊢
      refine kl_nil ?_
      refine kq_last ?_
      repeat (first | refine kw_seq ?_ | refine kw_block ?_ | refine kw_region ?_ | refine kl_nil ?_ | refine kq_then ?_ | refine kq_block ?_ | refine kw_ift rfl ?_ | refine kw_iff rfl ?_ | refine kw_skip ?_ | refine kl_ung rfl rfl ?_ | refine kl_skipg rfl rfl rfl rfl ?_ | (first | refine kl_move rfl rfl (.inl rfl) rfl rfl ?_ | refine kl_move rfl rfl (.inr rfl) rfl rfl ?_ | refine kl_const rfl rfl (.inl rfl) rfl ?_ | refine kl_const rfl rfl (.inr rfl) rfl ?_) | ((first | refine kl_step rfl rfl rfl fun K hK => ?_ | refine kl_step0 rfl rfl rfl fun K hK => ?_); go_simp; (try go_bits); (first | refine hK _ _ ?_ | refine hK _ ?_); clear hK K))
      refine kq_again (nf - nk) [1, 2, 3, 4] (by have := HK.out; omega) ?_
      have hF9 : Hid (FsOk nk (fs ++ [⟨fName k, zd⟩])) := by show FsOk _ _; rw [← HK.out.1]; exact HF1.out
      exact ⟨nk, _, _, by have := HK.out; omega, rfl, hM9, hF9, rfl⟩
    · refine kf_ch ?_
      refine kl_call rfl rfl rfl Try.func76 rfl (by kernel_rfl) rfl ?_
      refine Calls.mono (within7_any z 6 6 v1 rfl (by omega) (by omega)) ?_
      rintro e _ ⟨rfl, rfl⟩
      refine ⟨_, rfl, ?_⟩
      rw [HZW.out]
      refine kl_nil ?_
      refine kq_f hR ?_
      repeat (first | refine kf_nil ?_ | refine kf_ung rfl rfl ?_ | refine kf_skipg rfl rfl rfl rfl ?_ | (first | refine kf_move rfl rfl (.inl rfl) rfl rfl ?_ | refine kf_move rfl rfl (.inr rfl) rfl rfl ?_ | refine kf_const rfl rfl (.inl rfl) rfl ?_ | refine kf_const rfl rfl (.inr rfl) rfl ?_) | (refine kf_val rfl rfl rfl ?_; apply Exists.intro; refine And.intro (fun W hW N hN => ?_) ?_; · (go_simp; (try go_bits); exact hN)))
      refine kz_more ?_
      refine kz_seg [10, 6, 7, 11, 12, 13, 14] [15] (by kernel_rfl) ?_
      simp only [pickO, pickF, nthO, nthB]
      repeat (first | refine kf_nil ?_ | refine kf_ung rfl rfl ?_ | refine kf_skipg rfl rfl rfl rfl ?_ | (first | refine kf_move rfl rfl (.inl rfl) rfl rfl ?_ | refine kf_move rfl rfl (.inr rfl) rfl rfl ?_ | refine kf_const rfl rfl (.inl rfl) rfl ?_ | refine kf_const rfl rfl (.inr rfl) rfl ?_) | (refine kf_val rfl rfl rfl ?_; apply Exists.intro; refine And.intro (fun W hW N hN => ?_) ?_; · (go_simp; (try go_bits); exact hN)))
      refine kf_ch ?_
      (first | ((first | refine kl_step rfl rfl rfl fun K hK => ?_ | refine kl_step0 rfl rfl rfl fun K hK => ?_); go_simp; (try go_bits); (first | refine hK _ _ ?_ | refine hK _ ?_); clear hK K))
      clear kc
      refine kl_nil ?_
      refine kq_f hR ?_
      repeat (first | refine kf_nil ?_ | refine kf_ung rfl rfl ?_ | refine kf_skipg rfl rfl rfl rfl ?_ | (first | refine kf_move rfl rfl (.inl rfl) rfl rfl ?_ | refine kf_move rfl rfl (.inr rfl) rfl rfl ?_ | refine kf_const rfl rfl (.inl rfl) rfl ?_ | refine kf_const rfl rfl (.inr rfl) rfl ?_) | (refine kf_val rfl rfl rfl ?_; apply Exists.intro; refine And.intro (fun W hW N hN => ?_) ?_; · (go_simp; (try go_bits); exact hN)))
      refine kf_ch ?_
      refine kl_buildSlice_row (z := fldC fldZ) (cs := fldC ⟨[102, u], zd⟩) Try.underlying69 fldZero fldSize rfl (by omega) (by omega) rfl rfl rfl rfl rfl ?_
      have hr := rangeAt_new v1 (fldC ⟨[102, u], zd⟩).toArray 118 v1.heap.size rfl
      replace hM1 := hM1.lit (fldC ⟨[102, u], zd⟩).toArray 118
      clear hR
      have hR := hM1.r
      generalize v1.heap.size = gf at *
      generalize v1.alloc (.cells (fldC ⟨[102, u], zd⟩).toArray 118) = w7 at *
      refine kl_nil ?_
      refine kq_f hR ?_
      repeat (first | refine kf_nil ?_ | refine kf_ung rfl rfl ?_ | refine kf_skipg rfl rfl rfl rfl ?_ | (first | refine kf_move rfl rfl (.inl rfl) rfl rfl ?_ | refine kf_move rfl rfl (.inr rfl) rfl rfl ?_ | refine kf_const rfl rfl (.inl rfl) rfl ?_ | refine kf_const rfl rfl (.inr rfl) rfl ?_) | (refine kf_val rfl rfl rfl ?_; apply Exists.intro; refine And.intro (fun W hW N hN => ?_) ?_; · (go_simp; (try go_bits); exact hN)))
      refine kf_ch ?_
      refine kl_appendN 69 118 _ 2 24 Try.underlying69 fldInfo3 rfl (by omega) wa.heap.size v k (flatR fldE fs) hM1.own gf 0 1 1 (fldC ⟨[102, u], zd⟩) rfl hr (fldC_one _) (by have := HK.out; omega) (by have := HK.out; omega) hM1.lay.below.size rfl rfl rfl rfl rfl rfl ?_
      intro v8 w8 ho8 hg8 hv8
      rw [show flatR fldE fs ++ fldC ⟨[102, u], zd⟩ = flatR fldE (fs ++ [⟨fName k, zd⟩]) by rw [flatR_snoc, HNM.out]; rfl, HK.out.1] at ho8
      obtain ⟨b8, cc8, rfl, _⟩ := own_formC ho8 (by have := HK.out; omega)
      obtain ⟨hl8, ho8, hne8⟩ := hM1.app ho8 hg8 hv8
      have c8 : w8.cell? ⟨g3, 3, none⟩ = some v := hl8.get (cs := [.int .i64 8, .int .i64 0, .int .i64 0, v]) (j := 3) 0 rfl rfl
      have f8 := hl8.free 0 rfl 3
      have hM9 := Lib.hid (FsM.store hl8 ho8 hne8)
      have hR8 : R7 wa g3 v w8 := ⟨hl8.below, c8⟩
      clear hr hg8 hv8 hM1 hR hl8 ho8 hne8
      refine kl_nil ?_
      refine kq_f hR8 ?_
      repeat (first | refine kf_nil ?_ | refine kf_ung rfl rfl ?_ | refine kf_skipg rfl rfl rfl rfl ?_ | (first | refine kf_move rfl rfl (.inl rfl) rfl rfl ?_ | refine kf_move rfl rfl (.inr rfl) rfl rfl ?_ | refine kf_const rfl rfl (.inl rfl) rfl ?_ | refine kf_const rfl rfl (.inr rfl) rfl ?_) | (refine kf_val rfl rfl rfl ?_; apply Exists.intro; refine And.intro (fun W hW N hN => ?_) ?_; · (go_simp; (try go_bits); exact hN)))
      refine kz_more ?_
      clear r3 hR8
      refine kz_last rfl rfl ?_
      (first | ((first | refine kl_step rfl rfl rfl fun K hK => ?_ | refine kl_step0 rfl rfl rfl fun K hK => ?_); go_simp; (try go_bits); (first | refine hK _ _ ?_ | refine hK _ ?_); clear hK K))
      clear c8 f8
      generalize w8.setCell ⟨g3, 3, none⟩ (.slice (some ⟨b8, 0, none⟩) nk cc8) = w9 at hM9 ⊢
      refine kl_nil ?_
      refine kq_last ?_
      repeat (first | refine kw_seq ?_ | refine kw_block ?_ | refine kw_region ?_ | refine kl_nil ?_ | refine kq_then ?_ | refine kq_block ?_ | refine kw_ift rfl ?_ | refine kw_iff rfl ?_ | refine kw_skip ?_ | refine kl_ung rfl rfl ?_ | refine kl_skipg rfl rfl rfl rfl ?_ | (first | refine kl_move rfl rfl (.inl rfl) rfl rfl ?_ | refine kl_move rfl rfl (.inr rfl) rfl rfl ?_ | refine kl_const rfl rfl (.inl rfl) rfl ?_ | refine kl_const rfl rfl (.inr rfl) rfl ?_) | ((first | refine kl_step rfl rfl rfl fun K hK => ?_ | refine kl_step0 rfl rfl rfl fun K hK => ?_); go_simp; (try go_bits); (first | refine hK _ _ ?_ | refine hK _ ?_); clear hK K))
      refine kq_again (nf - nk) [1, 2, 3, 4] (by have := HK.out; omega) ?_
      have hF9 : Hid (FsOk nk (fs ++ [⟨fName k, zd⟩])) := by show FsOk _ _; rw [← HK.out.1]; exact HF1.out
      exact ⟨nk, _, _, by have := HK.out; omega, rfl, hM9, hF9, rfl⟩
  · refine kf_ch ?_
    refine kl_call rfl rfl rfl Try.func76 rfl (by kernel_rfl) rfl ?_
    refine Calls.mono (within7_any z 6 6 v0 rfl (by omega) (by omega)) ?_
    rintro e _ ⟨rfl, rfl⟩
    refine ⟨_, rfl, ?_⟩
    rw [HZW.out]
    refine kl_nil ?_
    refine kq_f hR ?_
    repeat (first | refine kf_nil ?_ | refine kf_ung rfl rfl ?_ | refine kf_skipg rfl rfl rfl rfl ?_ | (first | refine kf_move rfl rfl (.inl rfl) rfl rfl ?_ | refine kf_move rfl rfl (.inr rfl) rfl rfl ?_ | refine kf_const rfl rfl (.inl rfl) rfl ?_ | refine kf_const rfl rfl (.inr rfl) rfl ?_) | (refine kf_val rfl rfl rfl ?_; apply Exists.intro; refine And.intro (fun W hW N hN => ?_) ?_; · (go_simp; (try go_bits); exact hN)))
    refine kz_more ?_
    refine kz_seg [10, 5, 6, 7, 11, 12, 13, 14] [15] (by kernel_rfl) ?_
    simp only [pickO, pickF, nthO, nthB]
    repeat (first | refine kf_nil ?_ | refine kf_ung rfl rfl ?_ | refine kf_skipg rfl rfl rfl rfl ?_ | (first | refine kf_move rfl rfl (.inl rfl) rfl rfl ?_ | refine kf_move rfl rfl (.inr rfl) rfl rfl ?_ | refine kf_const rfl rfl (.inl rfl) rfl ?_ | refine kf_const rfl rfl (.inr rfl) rfl ?_) | (refine kf_val rfl rfl rfl ?_; apply Exists.intro; refine And.intro (fun W hW N hN => ?_) ?_; · (go_simp; (try go_bits); exact hN)))
    refine kf_ch ?_
    (first | ((first | refine kl_step rfl rfl rfl fun K hK => ?_ | refine kl_step0 rfl rfl rfl fun K hK => ?_); go_simp; (try go_bits); (first | refine hK _ _ ?_ | refine hK _ ?_); clear hK K))
    have hb := (Below.refl v0.heap.size v0).alloc (Nat.le_refl _) (.cells #[.int .u8 (q : Int)] 5)
    have hBs : Bs (v0.alloc (.cells #[.int .u8 (q : Int)] 5)) (some ⟨v0.heap.size, 0, none⟩) 1 [u] := Bs.lit 5 rfl _ rfl (by rw [Q4.out]; simp [bv, u8n]; omega)
    replace hM1 := hM1.next hb
    have kc := convB (c := 1) hBs
    clear hb hBs hR
    have hR := hM1.r
    generalize v0.heap.size = gb at *
    generalize v0.alloc (.cells #[.int .u8 (q : Int)] 5) = v1 at *
    refine kl_nil ?_
    refine kq_f hR ?_
    repeat (first | refine kf_nil ?_ | refine kf_ung rfl rfl ?_ | refine kf_skipg rfl rfl rfl rfl ?_ | (first | refine kf_move rfl rfl (.inl rfl) rfl rfl ?_ | refine kf_move rfl rfl (.inr rfl) rfl rfl ?_ | refine kf_const rfl rfl (.inl rfl) rfl ?_ | refine kf_const rfl rfl (.inr rfl) rfl ?_) | (refine kf_val rfl rfl rfl ?_; apply Exists.intro; refine And.intro (fun W hW N hN => ?_) ?_; · (go_simp; (try go_bits); exact hN)))
    refine kf_ch ?_
    (first | ((first | refine kl_step rfl rfl rfl fun K hK => ?_ | refine kl_step0 rfl rfl rfl fun K hK => ?_); go_simp; (try go_bits); (first | refine hK _ _ ?_ | refine hK _ ?_); clear hK K))
    clear kc
    refine kl_nil ?_
    refine kq_f hR ?_
    repeat (first | refine kf_nil ?_ | refine kf_ung rfl rfl ?_ | refine kf_skipg rfl rfl rfl rfl ?_ | (first | refine kf_move rfl rfl (.inl rfl) rfl rfl ?_ | refine kf_move rfl rfl (.inr rfl) rfl rfl ?_ | refine kf_const rfl rfl (.inl rfl) rfl ?_ | refine kf_const rfl rfl (.inr rfl) rfl ?_) | (refine kf_val rfl rfl rfl ?_; apply Exists.intro; refine And.intro (fun W hW N hN => ?_) ?_; · (go_simp; (try go_bits); exact hN)))
    refine kf_ch ?_
    refine kl_buildSlice_row (z := fldC fldZ) (cs := fldC ⟨[102, u], zd⟩) Try.underlying69 fldZero fldSize rfl (by omega) (by omega) rfl rfl rfl rfl rfl ?_
    have hr := rangeAt_new v1 (fldC ⟨[102, u], zd⟩).toArray 118 v1.heap.size rfl
    replace hM1 := hM1.lit (fldC ⟨[102, u], zd⟩).toArray 118
    clear hR
    have hR := hM1.r
    generalize v1.heap.size = gf at *
    generalize v1.alloc (.cells (fldC ⟨[102, u], zd⟩).toArray 118) = w7 at *
    refine kl_nil ?_
    refine kq_f hR ?_
    repeat (first | refine kf_nil ?_ | refine kf_ung rfl rfl ?_ | refine kf_skipg rfl rfl rfl rfl ?_ | (first | refine kf_move rfl rfl (.inl rfl) rfl rfl ?_ | refine kf_move rfl rfl (.inr rfl) rfl rfl ?_ | refine kf_const rfl rfl (.inl rfl) rfl ?_ | refine kf_const rfl rfl (.inr rfl) rfl ?_) | (refine kf_val rfl rfl rfl ?_; apply Exists.intro; refine And.intro (fun W hW N hN => ?_) ?_; · (go_simp; (try go_bits); exact hN)))
    refine kf_ch ?_
    refine kl_appendN 69 118 _ 2 24 Try.underlying69 fldInfo3 rfl (by omega) wa.heap.size v k (flatR fldE fs) hM1.own gf 0 1 1 (fldC ⟨[102, u], zd⟩) rfl hr (fldC_one _) (by have := HK.out; omega) (by have := HK.out; omega) hM1.lay.below.size rfl rfl rfl rfl rfl rfl ?_
    intro v8 w8 ho8 hg8 hv8
    rw [show flatR fldE fs ++ fldC ⟨[102, u], zd⟩ = flatR fldE (fs ++ [⟨fName k, zd⟩]) by rw [flatR_snoc, HNM.out]; rfl, HK.out.1] at ho8
    obtain ⟨b8, cc8, rfl, _⟩ := own_formC ho8 (by have := HK.out; omega)
    obtain ⟨hl8, ho8, hne8⟩ := hM1.app ho8 hg8 hv8
    have c8 : w8.cell? ⟨g3, 3, none⟩ = some v := hl8.get (cs := [.int .i64 8, .int .i64 0, .int .i64 0, v]) (j := 3) 0 rfl rfl
    have f8 := hl8.free 0 rfl 3
    have hM9 := Lib.hid (FsM.store hl8 ho8 hne8)
    have hR8 : R7 wa g3 v w8 := ⟨hl8.below, c8⟩
    clear hr hg8 hv8 hM1 hR hl8 ho8 hne8
    refine kl_nil ?_
    refine kq_f hR8 ?_
    repeat (first | refine kf_nil ?_ | refine kf_ung rfl rfl ?_ | refine kf_skipg rfl rfl rfl rfl ?_ | (first | refine kf_move rfl rfl (.inl rfl) rfl rfl ?_ | refine kf_move rfl rfl (.inr rfl) rfl rfl ?_ | refine kf_const rfl rfl (.inl rfl) rfl ?_ | refine kf_const rfl rfl (.inr rfl) rfl ?_) | (refine kf_val rfl rfl rfl ?_; apply Exists.intro; refine And.intro (fun W hW N hN => ?_) ?_; · (go_simp; (try go_bits); exact hN)))
    refine kz_more ?_
    clear r3 hR8
    refine kz_last rfl rfl ?_
    (first | ((first | refine kl_step rfl rfl rfl fun K hK => ?_ | refine kl_step0 rfl rfl rfl fun K hK => ?_); go_simp; (try go_bits); (first | refine hK _ _ ?_ | refine hK _ ?_); clear hK K))
    clear c8 f8
    generalize w8.setCell ⟨g3, 3, none⟩ (.slice (some ⟨b8, 0, none⟩) nk cc8) = w9 at hM9 ⊢
    refine kl_nil ?_
    refine kq_last ?_
    repeat (first | refine kw_seq ?_ | refine kw_block ?_ | refine kw_region ?_ | refine kl_nil ?_ | refine kq_then ?_ | refine kq_block ?_ | refine kw_ift rfl ?_ | refine kw_iff rfl ?_ | refine kw_skip ?_ | refine kl_ung rfl rfl ?_ | refine kl_skipg rfl rfl rfl rfl ?_ | (first | refine kl_move rfl rfl (.inl rfl) rfl rfl ?_ | refine kl_move rfl rfl (.inr rfl) rfl rfl ?_ | refine kl_const rfl rfl (.inl rfl) rfl ?_ | refine kl_const rfl rfl (.inr rfl) rfl ?_) | ((first | refine kl_step rfl rfl rfl fun K hK => ?_ | refine kl_step0 rfl rfl rfl fun K hK => ?_); go_simp; (try go_bits); (first | refine hK _ _ ?_ | refine hK _ ?_); clear hK K))
    refine kq_again (nf - nk) [1, 2, 3, 4] (by have := HK.out; omega) ?_
    have hF9 : Hid (FsOk nk (fs ++ [⟨fName k, zd⟩])) := by show FsOk _ _; rw [← HK.out.1]; exact HF1.out
    exact ⟨nk, _, _, by have := HK.out; omega, rfl, hM9, hF9, rfl⟩
end Go.Proofs.Ytcpifcdndhhmgaa
