/- What is given to cells: the document's. -/
import Derived.Test.YtcpifcdndhhmgaaTakTake
import Derived.Test.YtcpifcdndhhmgaaRetRd
set_option linter.unusedVariables false
set_option linter.unusedSimpArgs false
namespace Go.Proofs.Ytcpifcdndhhmgaa
open Go.RowKit
attribute [local go_sem] ev_tmp ev_const ev_func ev_global lk_hit lk_miss uponK_value uponK_skip look_tmp look_const look_global look_func valP_value
def hitK (c : CellV) (k : KepS) : Bool := (k.path == c.path) && (k.kind == c.kind)
def foundK (c : CellV) (ks : List KepS) : Int := ((ks.find? (hitK c)).map (·.value)).getD c.init
def giveOne (ks : List KepS) (c : CellV) : Int := if c.retain then foundK c ks else c.init
def giveP (l : List CellV) (ks : List KepS) : List Int := l.map (giveOne ks)
theorem foundK_yes (c : CellV) (k : KepS) (ks : List KepS) (h : hitK c k = true) : foundK c (k :: ks) = k.value := by unfold foundK; rw [List.find?_cons, h]; rfl
theorem foundK_no (c : CellV) (k : KepS) (ks : List KepS) (h : hitK c k = false) : foundK c (k :: ks) = foundK c ks := by unfold foundK; rw [List.find?_cons, h]
theorem give_take (l : List CellV) (ks : List KepS) (k : Nat) (p : CellV) (h : l.take (k + 1) = l.take k ++ [p]) : (giveP (l.take (k + 1)) ks).map (Value.int .i64) = (giveP (l.take k) ks).map (Value.int .i64) ++ [.int .i64 (giveOne ks p)] := by rw [h]; simp [giveP]
theorem drop_at {α : Type} (l : List α) (j : Nat) (p : α) (h : l[j]? = some p) : l.drop j = p :: l.drop (j + 1) := by
  obtain ⟨h1, h2⟩ := List.getElem?_eq_some_iff.1 h
  rw [List.drop_eq_getElem_cons h1, h2]
set_option maxRecDepth 100000 in
set_option maxHeartbeats 4000000 in
theorem giveR_any (A : Option Addr) (n c : Nat) (l : List CellV) (K : Option Addr) (m d : Nat) (ks : List KepS) (w : World) (hA : Rw cellE w A n l) (hn : n ≤ 1048576) (hK : KeS w K m ks) (hm : m ≤ 1048576) :
    Calls Try.prog 34 #[.slice A n c, .slice K m d] w fun e w' => ∃ v, e = .returned v ∧ w'.ownsRow w.heap.size 3 1 v n ((giveP l ks).map (Value.int .i64)) ∧ Below w.heap.size w w' := by
  refine calls_kw Try.func34 rfl Try.ntmps34 rfl [(0, .slice A n c), (1, .slice K m d)] rfl ?_
  have HL := Lib.hid hA.len
  repeat (first | refine kw_seq ?_ | refine kw_skip ?_ | refine kw_region ?_ | refine kl_nil ?_ | refine kq_then ?_ | refine kq_block ?_ | refine kw_exit ?_ | refine kq_then_exit ?_ | refine kq_block_here rfl ?_ | refine kq_block_far rfl ?_ | refine kq_again_exit ?_ | refine kw_ret ?_ | refine kq_then_ret ?_ | refine kq_block_ret ?_ | refine kq_again_ret ?_ | refine kw_ift rfl ?_ | refine kw_iff rfl ?_ | refine kl_ung rfl rfl ?_ | refine kl_skipg rfl rfl rfl rfl ?_ | refine kl_skipg0 rfl rfl rfl ?_ | (first | refine kl_move rfl rfl (.inl rfl) rfl rfl ?_ | refine kl_move rfl rfl (.inr rfl) rfl rfl ?_ | refine kl_const rfl rfl (.inl rfl) rfl ?_ | refine kl_const rfl rfl (.inr rfl) rfl ?_) | ((first | refine kl_step rfl rfl rfl fun K hK => ?_ | refine kl_step0 rfl rfl rfl fun K hK => ?_); go_simp; (try go_bits); (first | refine hK _ _ ?_ | refine hK _ ?_); clear hK K))
  refine KW.less [0, 1, 5, 6] ?_
  simp only [nrm, lk, Nat.reduceBEq, cond_true, cond_false]
  refine kw_block ?_
  refine kw_loop (fun mm L W => ∃ (k : Nat) (v : Value), k ≤ n ∧ mm = n - k ∧ Hid (Below w.heap.size w W) ∧ Hid (W.ownsRow w.heap.size 3 1 v k ((giveP (l.take k) ks).map (Value.int .i64))) ∧ L = [(0, .slice A n c), (1, .slice K m d), (5, v), (6, .int .i64 (k : Int))]) ⟨0, .slice none 0 0, by omega, rfl, Below.refl _ _, World.ownsRow_nil _ _ _ _, rfl⟩ ?_
  rintro mm L W ⟨k, v, hk, rfl, hb, ho, rfl⟩
  by_cases hlt : k < n
  case neg =>
    obtain rfl : n = k := by omega
    have t1 : decide ((n : Int) < (n : Int)) = false := by simp
    have t1n : decide (n < n) = false := by simp
    rw [List.take_of_length_le (by rw [HL.out]; exact Nat.le_refl _)] at ho
    clear hlt
    repeat (first | refine kw_seq ?_ | refine kw_block ?_ | refine kw_skip ?_ | refine kw_region ?_ | refine kl_nil ?_ | refine kq_then ?_ | refine kq_block ?_ | refine kw_exit ?_ | refine kq_then_exit ?_ | refine kq_block_here rfl ?_ | refine kq_block_far rfl ?_ | refine kq_again_exit ?_ | refine kw_ret ?_ | refine kq_then_ret ?_ | refine kq_block_ret ?_ | refine kq_again_ret ?_ | refine kw_ift rfl ?_ | refine kw_iff rfl ?_ | refine kl_ung rfl rfl ?_ | refine kl_skipg rfl rfl rfl rfl ?_ | refine kl_skipg0 rfl rfl rfl ?_ | (first | refine kl_move rfl rfl (.inl rfl) rfl rfl ?_ | refine kl_move rfl rfl (.inr rfl) rfl rfl ?_ | refine kl_const rfl rfl (.inl rfl) rfl ?_ | refine kl_const rfl rfl (.inr rfl) rfl ?_) | ((first | refine kl_step rfl rfl rfl fun K hK => ?_ | refine kl_step0 rfl rfl rfl fun K hK => ?_); go_simp; (try go_bits); (first | refine hK _ _ ?_ | refine hK _ ?_); clear hK K))
    exact kq_ret1 rfl rfl ⟨_, rfl, ho.out, hb.out⟩
  have t1 : decide ((k : Int) < (n : Int)) = true := by rw [decide_eq_true_eq]; omega
  have t1n : decide (k < n) = true := decide_eq_true hlt
  have u0 : (0 : Int) ≤ k := by omega
  have u1 : (k : Int) < n := by omega
  obtain ⟨g, o, p, rfl, hr, ht, _⟩ := hA.next hlt
  have HR0 : Hid (w.rangeAt g (o + k * 6) (cellC p)) := hr
  have c3 : W.cell? ⟨g, o + k * 6 + 3, none⟩ = some (.int .i64 p.init) := Keeps.of_below hb.out _ _ (HR0.out 3 _ rfl)
  obtain ⟨nk, hnk⟩ : ∃ nk, k + 1 = nk := ⟨_, rfl⟩
  have k1 : (k : Int) + 1 = (nk : Int) := by omega
  have k2 : (0 : Int) ≤ nk := by omega
  have k3 : (nk : Int) ≤ 1048576 := by omega
  obtain ⟨z0, hz0⟩ : ∃ z0 : Int, (m : Int) - 1 = z0 := ⟨_, rfl⟩
  have z1 : -1 ≤ z0 := by omega
  have z2 : z0 ≤ 1048576 := by omega
  have HZ0 := Lib.hid hz0
  have HK := Lib.hid (And.intro hnk hlt)
  have HGT := Lib.hid (give_take l ks k p ht.out)
  rw [hnk] at HGT
  clear hr hlt hk hnk ht
  repeat (first | refine kw_seq ?_ | refine kw_region ?_ | refine kl_nil ?_ | refine kq_then ?_ | refine kq_block ?_ | refine kw_ift rfl ?_ | refine kw_iff rfl ?_ | refine kw_skip ?_ | refine kl_ung rfl rfl ?_ | refine kl_skipg rfl rfl rfl rfl ?_ | (first | refine kl_move rfl rfl (.inl rfl) rfl rfl ?_ | refine kl_move rfl rfl (.inr rfl) rfl rfl ?_ | refine kl_const rfl rfl (.inl rfl) rfl ?_ | refine kl_const rfl rfl (.inr rfl) rfl ?_) | ((first | refine kl_step rfl rfl rfl fun K hK => ?_ | refine kl_step0 rfl rfl rfl fun K hK => ?_); go_simp; (try go_bits); (first | refine hK _ _ ?_ | refine hK _ ?_); clear hK K))
  refine kw_block ?_
  repeat (first | refine kw_seq ?_ | refine kw_region ?_ | refine kl_nil ?_ | refine kq_then ?_ | (first | refine kl_move rfl rfl (.inl rfl) rfl rfl ?_ | refine kl_move rfl rfl (.inr rfl) rfl rfl ?_ | refine kl_const rfl rfl (.inl rfl) rfl ?_ | refine kl_const rfl rfl (.inr rfl) rfl ?_) | ((first | refine kl_step rfl rfl rfl fun K hK => ?_ | refine kl_step0 rfl rfl rfl fun K hK => ?_); go_simp; (try go_bits); (first | refine hK _ _ ?_ | refine hK _ ?_); clear hK K))
  refine kw_cutq (fun L W => Hid (Below w.heap.size w W) ∧ Hid (W.ownsRow w.heap.size 3 1 v k ((giveP (l.take k) ks).map (Value.int .i64))) ∧ L = [(0, .slice (some ⟨g, o, none⟩) n c), (1, .slice K m d), (5, v), (6, .int .i64 (k : Int)), (7, .int .i64 (giveOne ks p))]) ?_ ?_
  · clear c3 hz0
    refine KW.less [0, 1, 5, 6, 7, 8] ?_
    simp only [nrm, lk, Nat.reduceBEq, cond_true, cond_false]
    refine kw_block ?_
    refine kw_loop (fun mm L W => ∃ (q : Nat) (nn jz : Int), q ≤ m ∧ mm = q ∧ Hid (jz = (q : Int) - 1) ∧ Hid (Below w.heap.size w W) ∧ Hid (W.ownsRow w.heap.size 3 1 v k ((giveP (l.take k) ks).map (Value.int .i64))) ∧ Hid (p.retain = true → nn = foundK p (ks.drop q)) ∧ Hid (p.retain = false → nn = p.init) ∧ L = [(0, .slice (some ⟨g, o, none⟩) n c), (1, .slice K m d), (5, v), (6, .int .i64 (k : Int)), (7, .int .i64 nn), (8, .int .i64 jz)]) ⟨m, p.init, z0, Nat.le_refl _, rfl, HZ0.out.symm, hb, ho, fun _ => by rw [List.drop_of_length_le (by rw [hK.len]; exact Nat.le_refl _)]; rfl, fun _ => rfl, rfl⟩ ?_
    clear hb ho z1 z2 HZ0
    rintro mm L W2 ⟨q, nn, jz, hq, hmm, hjz, hb, ho, hf, hf2, rfl⟩
    obtain rfl : q = mm := hmm.symm
    clear hmm
    have d2 : ∀ W, Below w.heap.size w W → W.cell? ⟨g, o + k * 6 + 2, none⟩ = some (.bool p.retain) := fun W h => Keeps.of_below h _ _ (HR0.out 2 _ rfl)
    have c2 := d2 W2 hb.out
    cases hret : p.retain
    case false =>
      rw [hret] at c2
      have HE : Hid (giveOne ks p = nn) := by show _ = _; unfold giveOne; rw [hret, hf2.out hret]; rfl
      by_cases hq0 : 0 ≤ jz
      · have s1 : decide (0 ≤ jz) = true := decide_eq_true hq0
        clear hret hq0
        repeat (first | refine kw_seq ?_ | refine kw_block ?_ | refine kw_region ?_ | refine kl_nil ?_ | refine kq_then ?_ | refine kq_block ?_ | refine kw_ift rfl ?_ | refine kw_iff rfl ?_ | refine kw_skip ?_ | refine kw_exit ?_ | refine kq_then_exit ?_ | refine kq_block_here rfl ?_ | refine kq_again_exit ?_ | refine kl_ung rfl rfl ?_ | refine kl_skipg rfl rfl rfl rfl ?_ | (first | refine kl_move rfl rfl (.inl rfl) rfl rfl ?_ | refine kl_move rfl rfl (.inr rfl) rfl rfl ?_ | refine kl_const rfl rfl (.inl rfl) rfl ?_ | refine kl_const rfl rfl (.inr rfl) rfl ?_) | ((first | refine kl_step rfl rfl rfl fun K hK => ?_ | refine kl_step0 rfl rfl rfl fun K hK => ?_); go_simp; (try go_bits); (first | refine hK _ _ ?_ | refine hK _ ?_); clear hK K))
        refine kq_cut [0, 1, 5, 6, 7] ?_
        exact ⟨hb, ho, by rw [HE.out]; rfl⟩
      · have s1 : decide (0 ≤ jz) = false := decide_eq_false hq0
        clear hret hq0
        repeat (first | refine kw_seq ?_ | refine kw_block ?_ | refine kw_region ?_ | refine kl_nil ?_ | refine kq_then ?_ | refine kq_block ?_ | refine kw_ift rfl ?_ | refine kw_iff rfl ?_ | refine kw_skip ?_ | refine kw_exit ?_ | refine kq_then_exit ?_ | refine kq_block_here rfl ?_ | refine kq_again_exit ?_ | refine kl_ung rfl rfl ?_ | refine kl_skipg rfl rfl rfl rfl ?_ | (first | refine kl_move rfl rfl (.inl rfl) rfl rfl ?_ | refine kl_move rfl rfl (.inr rfl) rfl rfl ?_ | refine kl_const rfl rfl (.inl rfl) rfl ?_ | refine kl_const rfl rfl (.inr rfl) rfl ?_) | ((first | refine kl_step rfl rfl rfl fun K hK => ?_ | refine kl_step0 rfl rfl rfl fun K hK => ?_); go_simp; (try go_bits); (first | refine hK _ _ ?_ | refine hK _ ?_); clear hK K))
        refine kq_cut [0, 1, 5, 6, 7] ?_
        exact ⟨hb, ho, by rw [HE.out]; rfl⟩
    rw [hret] at c2
    have HRT := Lib.hid hret
    by_cases hq0 : 0 ≤ jz
    case neg =>
      have s1 : decide (0 ≤ jz) = false := decide_eq_false hq0
      have hq1 : q = 0 := by have := hjz.out; omega
      have HE : Hid (giveOne ks p = nn) := by show _ = _; unfold giveOne; rw [HRT.out, hf.out HRT.out, hq1]; rfl
      clear hret hq0 hq1
      repeat (first | refine kw_seq ?_ | refine kw_block ?_ | refine kw_region ?_ | refine kl_nil ?_ | refine kq_then ?_ | refine kq_block ?_ | refine kw_ift rfl ?_ | refine kw_iff rfl ?_ | refine kw_skip ?_ | refine kw_exit ?_ | refine kq_then_exit ?_ | refine kq_block_here rfl ?_ | refine kq_again_exit ?_ | refine kl_ung rfl rfl ?_ | refine kl_skipg rfl rfl rfl rfl ?_ | (first | refine kl_move rfl rfl (.inl rfl) rfl rfl ?_ | refine kl_move rfl rfl (.inr rfl) rfl rfl ?_ | refine kl_const rfl rfl (.inl rfl) rfl ?_ | refine kl_const rfl rfl (.inr rfl) rfl ?_) | ((first | refine kl_step rfl rfl rfl fun K hK => ?_ | refine kl_step0 rfl rfl rfl fun K hK => ?_); go_simp; (try go_bits); (first | refine hK _ _ ?_ | refine hK _ ?_); clear hK K))
      refine kq_cut [0, 1, 5, 6, 7] ?_
      exact ⟨hb, ho, by rw [HE.out]; rfl⟩
    obtain ⟨j, rfl⟩ : ∃ j, q = j + 1 := ⟨q - 1, by have := hjz.out; omega⟩
    have hjj : jz = (j : Int) := by have := hjz.out; omega
    subst hjj
    have s1 : decide ((0 : Int) ≤ (j : Int)) = true := decide_eq_true hq0
    have v0 : (0 : Int) ≤ j := by omega
    have v1 : (j : Int) < m := by omega
    have v2 : (j : Int) ≤ 1048576 := by omega
    have hjm : j < m := by omega
    obtain ⟨gk, ok, kp, rfl, hkr, _, hkx⟩ := hK.next hjm
    have HKR : Hid (w.rangeAt gk (ok + j * 3) (kepC kp)) := hkr
    have HDR := Lib.hid (drop_at ks j kp hkx.out)
    have HJM := Lib.hid (And.intro hjm hq)
    obtain ⟨jn, hjn⟩ : ∃ jn : Int, (j : Int) - 1 = jn := ⟨_, rfl⟩
    have v3 : -1 ≤ jn := by omega
    have v4 : jn ≤ 1048576 := by omega
    have HJN := Lib.hid hjn
    clear hret hq0 hkr hjm hq hkx hjz
    repeat (first | refine kw_seq ?_ | refine kw_block ?_ | refine kw_region ?_ | refine kl_nil ?_ | refine kq_then ?_ | refine kq_block ?_ | refine kw_ift rfl ?_ | refine kw_iff rfl ?_ | refine kw_skip ?_ | refine kl_ung rfl rfl ?_ | refine kl_skipg rfl rfl rfl rfl ?_ | (first | refine kl_move rfl rfl (.inl rfl) rfl rfl ?_ | refine kl_move rfl rfl (.inr rfl) rfl rfl ?_ | refine kl_const rfl rfl (.inl rfl) rfl ?_ | refine kl_const rfl rfl (.inr rfl) rfl ?_) | ((first | refine kl_step rfl rfl rfl fun K hK => ?_ | refine kl_step0 rfl rfl rfl fun K hK => ?_); go_simp; (try go_bits); (first | refine hK _ _ ?_ | refine hK _ ?_); clear hK K))
    have hR := below_then hb.out ((Below.refl _ W2).drew) hb.out.size
    have HO4 := Lib.hid (own_below ho.out ((Below.refl _ W2).drew))
    have r0 : ∀ W, Below w.heap.size w W → W.cell? ⟨g, o + k * 6, none⟩ = some (.string ⟨p.path.toArray⟩) := fun W h => Keeps.of_below h _ _ (HR0.out 0 _ rfl)
    have r1 : ∀ W, Below w.heap.size w W → W.cell? ⟨g, o + k * 6 + 1, none⟩ = some (.int .i64 p.kind) := fun W h => Keeps.of_below h _ _ (HR0.out 1 _ rfl)
    have r2 : ∀ W, Below w.heap.size w W → W.cell? ⟨gk, ok + j * 3, none⟩ = some (.string ⟨kp.path.toArray⟩) := fun W h => Keeps.of_below h _ _ (HKR.out 0 _ rfl)
    have r3 : ∀ W, Below w.heap.size w W → W.cell? ⟨gk, ok + j * 3 + 1, none⟩ = some (.int .i64 kp.kind) := fun W h => Keeps.of_below h _ _ (HKR.out 1 _ rfl)
    refine kw_region_f (Below w.heap.size w) [true, true, true, true, true, true, true, true, true, true, true, true, true, true, true, true, true, true, true, true, true, true, true, true] (by kernel_rfl) (by kernel_rfl) hR ?_
    clear ho c2 d2
    generalize W2.drew = w4 at *
    have e5 : w4.cell? ⟨gk, ok + j * 3 + 2, none⟩ = some (.int .i64 kp.value) := Keeps.of_below hR _ _ (HKR.out 2 _ rfl)
    have HB4 := Lib.hid hR
    by_cases h1 : kp.path = p.path
    case neg =>
      have e1 : (kp.path == p.path) = false := beq_eq_false_iff_ne.2 h1
      have hh : hitK p kp = false := by unfold hitK; rw [e1]; rfl
      have HF : Hid (foundK p (ks.drop j) = nn) := by show _ = _; rw [HDR.out, foundK_no _ _ _ hh, hf.out HRT.out]
      clear h1 hh
      repeat (first | refine kf_nil ?_ | refine kf_ung rfl rfl ?_ | refine kf_skipg rfl rfl rfl rfl ?_ | (first | refine kf_move rfl rfl (.inl rfl) rfl rfl ?_ | refine kf_move rfl rfl (.inr rfl) rfl rfl ?_ | refine kf_const rfl rfl (.inl rfl) rfl ?_ | refine kf_const rfl rfl (.inr rfl) rfl ?_) | (refine kf_val rfl rfl rfl ?_; apply Exists.intro; refine And.intro (fun W hW N hN => ?_) ?_; · (go_simp; (try go_bits); exact hN)))
      refine kq_then ?_
      clear r0 r1 r2 r3 hR
      repeat (first | refine kw_seq ?_ | refine kw_block ?_ | refine kw_region ?_ | refine kl_nil ?_ | refine kq_then ?_ | refine kq_block ?_ | refine kw_ift rfl ?_ | refine kw_iff rfl ?_ | refine kw_skip ?_ | refine kl_ung rfl rfl ?_ | refine kl_skipg rfl rfl rfl rfl ?_ | (first | refine kl_move rfl rfl (.inl rfl) rfl rfl ?_ | refine kl_move rfl rfl (.inr rfl) rfl rfl ?_ | refine kl_const rfl rfl (.inl rfl) rfl ?_ | refine kl_const rfl rfl (.inr rfl) rfl ?_) | ((first | refine kl_step rfl rfl rfl fun K hK => ?_ | refine kl_step0 rfl rfl rfl fun K hK => ?_); go_simp; (try go_bits); (first | refine hK _ _ ?_ | refine hK _ ?_); clear hK K))
      refine kq_again j [0, 1, 5, 6, 7, 8] (by omega) ?_
      exact ⟨j, nn, jn, by have := HJM.out; omega, rfl, HJN.out.symm, HB4, HO4, fun _ => HF.out.symm, (fun h => by cases h), rfl⟩
    have e1 : (kp.path == p.path) = true := beq_iff_eq.2 h1
    by_cases h2 : kp.kind = p.kind
    case neg =>
      have e2 : (kp.kind == p.kind) = false := beq_eq_false_iff_ne.2 h2
      have hh : hitK p kp = false := by unfold hitK; rw [e1, e2]; rfl
      have HF : Hid (foundK p (ks.drop j) = nn) := by show _ = _; rw [HDR.out, foundK_no _ _ _ hh, hf.out HRT.out]
      clear h1 h2 hh
      repeat (first | refine kf_nil ?_ | refine kf_ung rfl rfl ?_ | refine kf_skipg rfl rfl rfl rfl ?_ | (first | refine kf_move rfl rfl (.inl rfl) rfl rfl ?_ | refine kf_move rfl rfl (.inr rfl) rfl rfl ?_ | refine kf_const rfl rfl (.inl rfl) rfl ?_ | refine kf_const rfl rfl (.inr rfl) rfl ?_) | (refine kf_val rfl rfl rfl ?_; apply Exists.intro; refine And.intro (fun W hW N hN => ?_) ?_; · (go_simp; (try go_bits); exact hN)))
      refine kq_then ?_
      clear r0 r1 r2 r3 hR
      repeat (first | refine kw_seq ?_ | refine kw_block ?_ | refine kw_region ?_ | refine kl_nil ?_ | refine kq_then ?_ | refine kq_block ?_ | refine kw_ift rfl ?_ | refine kw_iff rfl ?_ | refine kw_skip ?_ | refine kl_ung rfl rfl ?_ | refine kl_skipg rfl rfl rfl rfl ?_ | (first | refine kl_move rfl rfl (.inl rfl) rfl rfl ?_ | refine kl_move rfl rfl (.inr rfl) rfl rfl ?_ | refine kl_const rfl rfl (.inl rfl) rfl ?_ | refine kl_const rfl rfl (.inr rfl) rfl ?_) | ((first | refine kl_step rfl rfl rfl fun K hK => ?_ | refine kl_step0 rfl rfl rfl fun K hK => ?_); go_simp; (try go_bits); (first | refine hK _ _ ?_ | refine hK _ ?_); clear hK K))
      refine kq_again j [0, 1, 5, 6, 7, 8] (by omega) ?_
      exact ⟨j, nn, jn, by have := HJM.out; omega, rfl, HJN.out.symm, HB4, HO4, fun _ => HF.out.symm, (fun h => by cases h), rfl⟩
    have e2 : (kp.kind == p.kind) = true := beq_iff_eq.2 h2
    have hh : hitK p kp = true := by unfold hitK; rw [e1, e2]; rfl
    have HF : Hid (foundK p (ks.drop j) = kp.value) := by show _ = _; rw [HDR.out, foundK_yes _ _ _ hh]
    clear h1 h2 hh
    repeat (first | refine kf_nil ?_ | refine kf_ung rfl rfl ?_ | refine kf_skipg rfl rfl rfl rfl ?_ | (first | refine kf_move rfl rfl (.inl rfl) rfl rfl ?_ | refine kf_move rfl rfl (.inr rfl) rfl rfl ?_ | refine kf_const rfl rfl (.inl rfl) rfl ?_ | refine kf_const rfl rfl (.inr rfl) rfl ?_) | (refine kf_val rfl rfl rfl ?_; apply Exists.intro; refine And.intro (fun W hW N hN => ?_) ?_; · (go_simp; (try go_bits); exact hN)))
    refine kq_then ?_
    clear r0 r1 r2 r3 hR
    repeat (first | refine kw_seq ?_ | refine kw_block ?_ | refine kw_region ?_ | refine kl_nil ?_ | refine kq_then ?_ | refine kq_block ?_ | refine kw_ift rfl ?_ | refine kw_iff rfl ?_ | refine kw_skip ?_ | refine kl_ung rfl rfl ?_ | refine kl_skipg rfl rfl rfl rfl ?_ | (first | refine kl_move rfl rfl (.inl rfl) rfl rfl ?_ | refine kl_move rfl rfl (.inr rfl) rfl rfl ?_ | refine kl_const rfl rfl (.inl rfl) rfl ?_ | refine kl_const rfl rfl (.inr rfl) rfl ?_) | ((first | refine kl_step rfl rfl rfl fun K hK => ?_ | refine kl_step0 rfl rfl rfl fun K hK => ?_); go_simp; (try go_bits); (first | refine hK _ _ ?_ | refine hK _ ?_); clear hK K))
    refine kq_again j [0, 1, 5, 6, 7, 8] (by omega) ?_
    exact ⟨j, kp.value, jn, by have := HJM.out; omega, rfl, HJN.out.symm, HB4, HO4, fun _ => HF.out.symm, (fun h => by cases h), rfl⟩
  clear c3 hb ho
  rintro L W ⟨hb, ho, rfl⟩
  obtain ⟨z, hz⟩ : ∃ z, giveOne ks p = z := ⟨_, rfl⟩
  rw [hz] at HGT ⊢
  clear hz
  repeat (first | refine kw_seq ?_ | refine kw_block ?_ | refine kw_region ?_ | refine kl_nil ?_ | refine kq_then ?_ | refine kq_block ?_ | refine kw_ift rfl ?_ | refine kw_iff rfl ?_ | refine kw_skip ?_ | refine kl_ung rfl rfl ?_ | refine kl_skipg rfl rfl rfl rfl ?_ | (first | refine kl_move rfl rfl (.inl rfl) rfl rfl ?_ | refine kl_move rfl rfl (.inr rfl) rfl rfl ?_ | refine kl_const rfl rfl (.inl rfl) rfl ?_ | refine kl_const rfl rfl (.inr rfl) rfl ?_) | ((first | refine kl_step rfl rfl rfl fun K hK => ?_ | refine kl_step0 rfl rfl rfl fun K hK => ?_); go_simp; (try go_bits); (first | refine hK _ _ ?_ | refine hK _ ?_); clear hK K))
  have HV3 := Lib.hid (vs_new W #[.int .i64 z] 3 1 rfl)
  have HB3 : Hid (Below w.heap.size w (W.alloc (.cells #[.int .i64 z] 3))) := hb.out.alloc hb.out.size _
  have HO3 := Lib.hid (ho.out.alloc (.cells #[.int .i64 z] 3))
  clear hb ho
  generalize W.heap.size = g3 at HV3 ⊢
  generalize W.alloc (.cells #[.int .i64 z] 3) = w3 at HV3 HB3 HO3 ⊢
  refine kl_appendV 56 3 (.int .i64 0) 8 Try.underlying56 intInfo3 rfl w.heap.size v k _ HO3.out _ 1 1 _ HV3.out (by intro u hu; simp at hu; subst hu; rfl) (by have := HK.out; omega) (by have := HK.out; omega) HB3.out.size rfl rfl rfl rfl rfl rfl ?_
  intro v4 w4 ho4 hg4 hv4
  have hb4 : Below w.heap.size w w4 := below_append HB3.out hg4 HO3.out HB3.out.size
  have ho4' := Lib.hid ho4
  rw [show ((giveP (l.take k) ks).map (Value.int .i64) ++ [Value.int .i64 z]) = (giveP (l.take nk) ks).map (Value.int .i64) from HGT.out.symm, HK.out.1] at ho4'
  have HB4 := Lib.hid hb4
  clear hb4 ho4 hg4 hv4 HV3 HB3 HO3
  repeat (first | refine kw_seq ?_ | refine kw_block ?_ | refine kw_region ?_ | refine kl_nil ?_ | refine kq_then ?_ | refine kq_block ?_ | refine kw_ift rfl ?_ | refine kw_iff rfl ?_ | refine kw_skip ?_ | refine kl_ung rfl rfl ?_ | refine kl_skipg rfl rfl rfl rfl ?_ | (first | refine kl_move rfl rfl (.inl rfl) rfl rfl ?_ | refine kl_move rfl rfl (.inr rfl) rfl rfl ?_ | refine kl_const rfl rfl (.inl rfl) rfl ?_ | refine kl_const rfl rfl (.inr rfl) rfl ?_) | ((first | refine kl_step rfl rfl rfl fun K hK => ?_ | refine kl_step0 rfl rfl rfl fun K hK => ?_); go_simp; (try go_bits); (first | refine hK _ _ ?_ | refine hK _ ?_); clear hK K))
  refine kq_again (n - nk) [0, 1, 5, 6] (by have := HK.out; omega) ?_
  exact ⟨nk, v4, by have := HK.out; omega, rfl, HB4, ho4', rfl⟩
end Go.Proofs.Ytcpifcdndhhmgaa
