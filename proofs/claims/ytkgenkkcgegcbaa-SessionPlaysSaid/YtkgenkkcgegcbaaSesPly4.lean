/- SessionPlays: acts in memory; a round. -/
import Derived.Test.YtkgenkkcgegcbaaSesPly3
import Derived.Test.YtkgenkkcgegcbaaSesParE
import Derived.Test.YtkgenkkcgegcbaaSesLit
import Derived.Test.YtkgenkkcgegcbaaSesBeginR
namespace Go.Proofs.Ytkgenkkcgegcbaa
open Go.RowKit
attribute [local go_sem] ev_tmp ev_const ev_func ev_global lk_hit lk_miss uponK_value uponK_skip look_tmp look_const look_global look_func valP_value
structure Act17 where
  kind : Int
  at_ : Int
  n : Int
  f : Frm
def actV (a : Act17) (D : Value) : List Value := .int .i64 a.kind :: .int .i64 a.at_ :: .int .i64 a.n :: frmV a.f D
def Acts17 (w : World) (A : Option Addr) (n : Nat) (l : List Act17) : Prop :=
  l.length = n ∧ (0 < n → ∃ g o, A = some ⟨g, o, none⟩ ∧ ∀ i a, l[i]? = some a → ∃ D, w.rangeAt g (o + i * 40) (actV a D) ∧ FrmM w a.f D ∧ I64 a.kind ∧ I64 a.at_ ∧ I64 a.n)
def zAct : List Value := actV ⟨0, 0, 0, zeroFrm⟩ (.slice none 0 0)
theorem actZero : (Try.prog.info? 44).bind (·.zero) = some (.agg zAct.toArray) := by kernel_rfl
theorem SlB.row0p {w : World} {l : List UInt8} {v : Value} (h : SlB w l v) {g : Nat} (hp : 0 < l.length → ∀ b o n c, v = .slice (some ⟨b, o, none⟩) n c → b ≠ g) (cs : Array Value) : SlB (w.setRow g cs) l v := by
  obtain ⟨A, n, c, rfl, hb, r⟩ := h
  refine ⟨A, n, c, rfl, ?_, r⟩
  rcases Nat.eq_zero_or_pos n with h0 | h0
  · subst h0
    have : l = [] := List.eq_nil_of_length_eq_zero hb.len
    subst this
    exact Bs.nil _ _
  · exact Vs.setRow hb (fun b o e => hp (by rw [hb.len]; exact h0) b o n c (by rw [e])) cs
theorem FrmM.row0p {w : World} {f : Frm} {D : Value} (h : FrmM w f D) {g : Nat} (hp : 0 < f.data.length → ∀ b o n c, D = .slice (some ⟨b, o, none⟩) n c → b ≠ g) (cs : Array Value) : FrmM (w.setRow g cs) f D := ⟨h.kind, h.id, h.size, h.at_, h.sum, h.data.row0p hp cs⟩
theorem length_actV (a : Act17) (D : Value) (h : a.f.sum.length = 32) : (actV a D).length = 40 := by simp [actV, length_frmV a.f D h]
theorem actInfo : (Try.prog.info? 44).map (·.size) = some 40 := by kernel_rfl
theorem infoA (a : Act17) (D : Value) (h : a.f.sum.length = 32) : (Try.prog.info? 44).map (·.size) = some (actV a D).toArray.size := by
  have : (actV a D).toArray.size = 40 := by simpa using length_actV a D h
  rw [this]; exact actInfo
theorem sizeZA (a : Act17) (D : Value) (h : a.f.sum.length = 32) : zAct.toArray.size = (actV a D).toArray.size := by simp [zAct, length_actV a D h, length_actV ⟨0, 0, 0, zeroFrm⟩ (.slice none 0 0) z32_len]
theorem actV_one (a : Act17) (D : Value) (hD : D.oneCell' = true) : (actV a D).toArray.all (·.oneCell') = true := by
  have := frmV_one a.f D hD
  simp only [List.all_toArray] at this ⊢
  simp only [actV, List.all_cons, this, Bool.and_true]
  rfl
theorem act_0 (a : Act17) (D : Value) : (actV a D)[0]? = some (.int .i64 a.kind) := rfl
theorem act_1 (a : Act17) (D : Value) : (actV a D)[1]? = some (.int .i64 a.at_) := rfl
theorem act_2 (a : Act17) (D : Value) : (actV a D)[2]? = some (.int .i64 a.n) := rfl
theorem act_range {w : World} {g : Nat} {a : Act17} {D : Value} {t : TypeId} {fr : Nat × Nat} (h : w.heap[g]? = some (.cells (actV a D).toArray t fr)) : w.rangeAt g 3 (frmV a.f D) := fun j u hu =>
  cell_of_block h (by rw [List.getElem?_toArray, Nat.add_comm]; exact hu)
set_option maxRecDepth 100000 in
set_option maxHeartbeats 4000000 in
theorem plays_round {Q : Exit → Act → World → Prop} {w wr : World} {n c n1 c1 i g7 g8 g10 : Nat} {A A1 : Option Addr} {img : List UInt8} {l : List Act17} {s : Ses} {F : Frm} {D G D2 G2 : Value}
    (h : PlS w g7 g8 g10 F (.slice none 0 0) s D G D2 G2 wr) (nD2 : NB g8 g10 D2) (nG2 : NB g8 g10 G2) (hs : s.size = n) (hd : s.data.length = n) (hg : s.got.length = n) (h0 : 0 < n) (hn : n ≤ 300) (hF : FrmM w F (.slice none 0 0))
    (hb1 : (beginS F).size = n) (hb2 : (beginS F).data.length = n) (hb3 : (beginS F).got.length = n) (hA : Bs w A n img) (hc : n ≤ c) (hc2 : c ≤ 9223372036854775807) (hL1 : Acts17 w A1 n1 l) (hn1 : n1 ≤ 60) (hi : i < n1)
    (hQ : ∀ wr' s' D' G' E' H', PlS w g7 g8 g10 F (.slice none 0 0) s' D' G' E' H' wr' → NB g8 g10 E' → NB g8 g10 H' → s'.size = n → s'.data.length = n → s'.got.length = n → KQ Q .normal 205 [(0, .slice A n c), (1, .slice A1 n1 c1), (7, .pointer (some ⟨g7, 0, none⟩)), (8, .pointer (some ⟨g8, 0, none⟩)), (10, .pointer (some ⟨g10, 0, none⟩)), (12, .int .i64 (i : Int))] wr')
    (hR : ∀ wr', Below w.heap.size w wr' → KQ Q .ret 205 [(6, .bool true)] wr') :
    KW Try.prog (blockOf Try.f3 1) Q 205 [(0, .slice A n c), (1, .slice A1 n1 c1), (7, .pointer (some ⟨g7, 0, none⟩)), (8, .pointer (some ⟨g8, 0, none⟩)), (10, .pointer (some ⟨g10, 0, none⟩)), (12, .int .i64 (i : Int))] wr := by
  conv => arg 2; whnf
  have HQ := Lib.hid hQ
  have HR := Lib.hid hR
  have H := Lib.hid h
  obtain ⟨ga, oa, rfl, hacts⟩ := hL1.2 (by omega)
  obtain ⟨a, ha⟩ : ∃ a, l[i]? = some a := ⟨_, List.getElem?_eq_getElem (by rw [hL1.1]; exact hi)⟩
  obtain ⟨DA, hra, hFA, hk1, hk2, hk3⟩ := hacts i a ha
  have HRA := Lib.hid (rangeAt_keep hra (.of_below h.lay.below))
  have HFA := Lib.hid (hFA.keep (.of_below h.lay.below))
  have HFS := Lib.hid hFA.sum
  have HK1 := Lib.hid hk1
  have HK2 := Lib.hid hk2
  have HK3 := Lib.hid hk3
  have HAB := Lib.hid (hA.keep (.of_below h.lay.below))
  have hL := h.lay
  have HF := Lib.hid hF
  clear hQ hR h hacts ha hra hFA hk1 hk2 hk3 hA hL1 hF
  have i0 : (0 : Int) ≤ i := by omega
  have i1 : (i : Int) < n1 := by omega
  refine kw_block ?_
  repeat (first | refine kw_seq ?_ | refine kw_region ?_ | refine kl_load_mid 44 ga (oa + i * 40) _ _ HRA.out Try.underlying44 rfl (by rw [infoA a DA HFS.out]; simp) rfl rfl rfl rfl rfl ?_ | refine kl_varL (cells := (actV a DA).toArray) hL actZero (infoA a DA HFS.out) (sizeZA a DA HFS.out) (actV_one a DA HFA.out.data.one) rfl rfl rfl rfl rfl rfl rfl rfl rfl ?_ | (first | refine kl_move rfl rfl (.inl rfl) rfl rfl ?_ | refine kl_move rfl rfl (.inr rfl) rfl rfl ?_ | refine kl_const rfl rfl (.inl rfl) rfl ?_ | refine kl_const rfl rfl (.inr rfl) rfl ?_) | ((first | refine kl_step rfl rfl rfl fun K hK => ?_ | refine kl_step0 rfl rfl rfl fun K hK => ?_); go_simp; (try go_bits); (first | refine hK _ _ ?_ | refine hK _ ?_); clear hK K))
  intro g13 w1 eg hb hL
  have H := Lib.hid (show SesM w1 s D G ∧ SesM w1 s D2 G2 ∧ FrmM w1 F (.slice none 0 0) from ⟨H.out.s1.keep (.of_below hb), H.out.s2.keep (.of_below hb), H.out.frm.keep (.of_below hb)⟩)
  have HFA := Lib.hid (HFA.out.keep (.of_below hb))
  have HAB := Lib.hid (HAB.out.keep (.of_below hb))
  clear eg hb HRA
  have r3 := Lib.hid (act_range (hL.at_ 0 rfl))
  refine kl_nil ?_
  refine kq_then ?_
  refine KW.less [0, 1, 7, 8, 10, 12, 13] ?_
  simp only [nrm, lk, Nat.reduceBEq, cond_true, cond_false]
  repeat (first | refine kw_seq ?_ | refine kw_region ?_ | refine kl_load_mid 29 g13 3 _ _ r3.out Try.underlying29 rfl (by rw [frmInfo, length_frmV _ _ HFS.out]) rfl rfl rfl rfl rfl ?_ | (first | refine kl_move rfl rfl (.inl rfl) rfl rfl ?_ | refine kl_move rfl rfl (.inr rfl) rfl rfl ?_ | refine kl_const rfl rfl (.inl rfl) rfl ?_ | refine kl_const rfl rfl (.inr rfl) rfl ?_) | ((first | refine kl_step rfl rfl rfl fun K hK => ?_ | refine kl_step0 rfl rfl rfl fun K hK => ?_); go_simp; (try go_bits); (first | refine hK _ _ ?_ | refine hK _ ?_); clear hK K))
  refine kl_call rfl rfl rfl Try.func14 rfl (by kernel_rfl) rfl ?_
  refine Calls.mono (few17_any a.f DA w1 HFA.out) ?_
  rintro e w2 ⟨rfl, hb⟩
  have hL := hL.next hb
  have H := Lib.hid (show SesM w2 s D G ∧ SesM w2 s D2 G2 ∧ FrmM w2 F (.slice none 0 0) from ⟨H.out.1.keep (.of_below hb), H.out.2.1.keep (.of_below hb), H.out.2.2.keep (.of_below hb)⟩)
  have HFA := Lib.hid (HFA.out.keep (.of_below hb))
  have HAB := Lib.hid (HAB.out.keep (.of_below hb))
  clear hb r3
  refine ⟨_, rfl, ?_⟩
  by_cases hfew : a.f.data.length ≤ 120
  case neg =>
    rw [decide_eq_false hfew]
    clear hfew
    repeat (first | refine kw_seq ?_ | refine kw_block ?_ | refine kw_skip ?_ | refine kw_region ?_ | refine kl_nil ?_ | refine kq_then ?_ | refine kq_block ?_ | refine kw_exit ?_ | refine kq_then_exit ?_ | refine kq_block_here rfl ?_ | refine kq_block_far rfl ?_ | refine kq_again_exit ?_ | refine kw_ret ?_ | refine kq_then_ret ?_ | refine kq_block_ret ?_ | refine kq_again_ret ?_ | refine kw_ift rfl ?_ | refine kw_iff rfl ?_ | refine kl_ung rfl rfl ?_ | refine kl_skipg rfl rfl rfl rfl ?_ | refine kl_skipg0 rfl rfl rfl ?_ | (first | refine kl_move rfl rfl (.inl rfl) rfl rfl ?_ | refine kl_move rfl rfl (.inr rfl) rfl rfl ?_ | refine kl_const rfl rfl (.inl rfl) rfl ?_ | refine kl_const rfl rfl (.inr rfl) rfl ?_) | ((first | refine kl_step rfl rfl rfl fun K hK => ?_ | refine kl_step0 rfl rfl rfl fun K hK => ?_); go_simp; (try go_bits); (first | refine hK _ _ ?_ | refine hK _ ?_); clear hK K))
    refine KQ.less [6] ?_
    simp only [nrm, lk, Nat.reduceBEq, cond_true, cond_false]
    exact HR.out _ hL.below
  rw [decide_eq_true hfew]
  have HFW := Lib.hid hfew
  clear hfew
  have a0 := hL.get (j := 0) 0 rfl (act_0 a DA)
  have a1 := hL.get (j := 1) 0 rfl (act_1 a DA)
  have a2 := hL.get (j := 2) 0 rfl (act_2 a DA)
  repeat (first | refine kw_seq ?_ | refine kw_block ?_ | refine kw_skip ?_ | refine kw_region ?_ | refine kl_nil ?_ | refine kq_then ?_ | refine kq_block ?_ | refine kw_exit ?_ | refine kq_then_exit ?_ | refine kq_block_here rfl ?_ | refine kq_block_far rfl ?_ | refine kq_again_exit ?_ | refine kw_ret ?_ | refine kq_then_ret ?_ | refine kq_block_ret ?_ | refine kq_again_ret ?_ | refine kw_ift rfl ?_ | refine kw_iff rfl ?_ | refine kl_ung rfl rfl ?_ | refine kl_skipg rfl rfl rfl rfl ?_ | refine kl_skipg0 rfl rfl rfl ?_ | (first | refine kl_move rfl rfl (.inl rfl) rfl rfl ?_ | refine kl_move rfl rfl (.inr rfl) rfl rfl ?_ | refine kl_const rfl rfl (.inl rfl) rfl ?_ | refine kl_const rfl rfl (.inr rfl) rfl ?_) | ((first | refine kl_step rfl rfl rfl fun K hK => ?_ | refine kl_step0 rfl rfl rfl fun K hK => ?_); go_simp; (try go_bits); (first | refine hK _ _ ?_ | refine hK _ ?_); clear hK K))
  refine kl_call rfl rfl rfl Try.func15 rfl (by kernel_rfl) rfl ?_
  refine Calls.mono (within_any a.at_ n _ w2 rfl h0 (by omega)) ?_
  rintro e _ ⟨rfl, rfl⟩
  refine ⟨_, rfl, ?_⟩
  have hat := within_lt a.at_ n h0
  generalize within a.at_ n = at_ at hat ⊢
  obtain ⟨p, hp⟩ : ∃ p, p = at_ := ⟨_, rfl⟩
  rw [← hp] at hat ⊢
  clear hp
  repeat (first | refine kw_seq ?_ | refine kw_block ?_ | refine kw_skip ?_ | refine kw_region ?_ | refine kl_nil ?_ | refine kq_then ?_ | refine kq_block ?_ | refine kw_exit ?_ | refine kq_then_exit ?_ | refine kq_block_here rfl ?_ | refine kq_block_far rfl ?_ | refine kq_again_exit ?_ | refine kw_ret ?_ | refine kq_then_ret ?_ | refine kq_block_ret ?_ | refine kq_again_ret ?_ | refine kw_ift rfl ?_ | refine kw_iff rfl ?_ | refine kl_ung rfl rfl ?_ | refine kl_skipg rfl rfl rfl rfl ?_ | refine kl_skipg0 rfl rfl rfl ?_ | (first | refine kl_move rfl rfl (.inl rfl) rfl rfl ?_ | refine kl_move rfl rfl (.inr rfl) rfl rfl ?_ | refine kl_const rfl rfl (.inl rfl) rfl ?_ | refine kl_const rfl rfl (.inr rfl) rfl ?_) | ((first | refine kl_step rfl rfl rfl fun K hK => ?_ | refine kl_step0 rfl rfl rfl fun K hK => ?_); go_simp; (try go_bits); (first | refine hK _ _ ?_ | refine hK _ ?_); clear hK K))
  refine kl_call rfl rfl rfl Try.func15 rfl (by kernel_rfl) rfl ?_
  refine Calls.mono (within_any a.n 64 _ w2 rfl (by omega) (by omega)) ?_
  rintro e _ ⟨rfl, rfl⟩
  refine ⟨_, rfl, ?_⟩
  have hq := within_lt a.n 64 (by omega)
  generalize within a.n 64 = q at hq ⊢
  obtain ⟨q1, hq1⟩ : ∃ q1, 1 + q = q1 := ⟨_, rfl⟩
  have j1 : (1 : Int) + (q : Int) = (q1 : Int) := by omega
  have j2 : IntKind.i64.wrap ((1 : Int) + (q : Int)) = (q1 : Int) := by rw [j1, IntWalk.i64_in _ (by omega)]
  obtain ⟨r, hr⟩ : ∃ r, n - p = r := ⟨_, rfl⟩
  have j3 : (n : Int) - (p : Int) = (r : Int) := by omega
  have j4 : IntKind.i64.wrap ((n : Int) - (p : Int)) = (r : Int) := by rw [j3, IntWalk.i64_in _ (by omega)]
  obtain ⟨m, hm⟩ : ∃ m, min q1 r = m := ⟨_, rfl⟩
  have m1 : (if (q1 : Int) < (r : Int) then (q1 : Int) else (r : Int)) = (m : Int) := by split <;> omega
  have m2 : (if (r : Int) < (q1 : Int) then (r : Int) else (q1 : Int)) = (m : Int) := by split <;> omega
  have m3 : (if (q1 : Int) ≤ (r : Int) then (q1 : Int) else (r : Int)) = (m : Int) := by split <;> omega
  have m4 : (if (r : Int) ≤ (q1 : Int) then (r : Int) else (q1 : Int)) = (m : Int) := by split <;> omega
  have m6 : (if r < q1 then (r : Int) else (q1 : Int)) = (m : Int) := by split <;> omega
  have m7 : (if q1 < r then (q1 : Int) else (r : Int)) = (m : Int) := by split <;> omega
  have m5 : min (q1 : Int) (r : Int) = (m : Int) := by omega
  obtain ⟨e, he⟩ : ∃ e, p + m = e := ⟨_, rfl⟩
  have j5 : (p : Int) + (m : Int) = (e : Int) := by omega
  have j6 : IntKind.i64.wrap ((p : Int) + (m : Int)) = (e : Int) := by rw [j5, IntWalk.i64_in _ (by omega)]
  have y1 : (q1 : Int) ≤ 65 := by omega
  have y2 : (r : Int) ≤ 300 := by omega
  have y3 : (e : Int) ≤ 300 := by omega
  have y4 : (m : Int) ≤ 300 := by omega
  have x1 : (0 : Int) ≤ q1 := by omega
  have x2 : (0 : Int) ≤ r := by omega
  have x3 : (0 : Int) ≤ e := by omega
  have x4 : (0 : Int) ≤ m := by omega
  have hen : e ≤ n := by omega
  have s0 : (0 : Int) ≤ p := by omega
  have s1 : (p : Int) ≤ e := by omega
  have s2 : (e : Int) ≤ c := by omega
  have s3 : (e : Int) ≤ n := by omega
  have s4 : p ≤ e := by omega
  have s5 : e ≤ c := by omega
  have hm1 : 0 < m := by omega
  have hmn : m ≤ n := by omega
  have hme : e - p = m := by omega
  have HP : Hid ((p + m = e) ∧ m ≤ 64) := ⟨he, by omega⟩
  clear hq hq1 hr hm he
  repeat (first | refine kw_seq ?_ | refine kw_block ?_ | refine kw_region ?_ | refine kl_nil ?_ | refine kq_then ?_ | (first | refine kl_move rfl rfl (.inl rfl) rfl rfl ?_ | refine kl_move rfl rfl (.inr rfl) rfl rfl ?_ | refine kl_const rfl rfl (.inl rfl) rfl ?_ | refine kl_const rfl rfl (.inr rfl) rfl ?_) | ((first | refine kl_step rfl rfl rfl fun K hK => ?_ | refine kl_step0 rfl rfl rfl fun K hK => ?_); go_simp; (try go_bits); (first | refine hK _ _ ?_ | refine hK _ ?_); clear hK K))
  have hBp := HAB.out.mid_ (j := p) (k := e) (cap := c) s4 hen hc
  rw [hme] at hBp
  obtain ⟨P, hP⟩ : ∃ P, (img.take e).drop p = P := ⟨_, rfl⟩
  rw [hP] at hBp
  have hPl : P.length = m := hBp.len
  have HPL := Lib.hid hPl
  clear hP hPl j1 j2 j3 j4 j5 j6 m1 m2 m3 m4 m5 m6 m7
  have z16 := hL.lt 0 rfl
  have z10 := hL.lt 1 rfl
  have z8 := hL.lt 2 rfl
  have z7 := hL.lt 3 rfl
  have zw := hL.below.size
  have bD := (ses_lt H.out.1 (by omega) (by omega)).1
  have bG := (ses_lt H.out.1 (by omega) (by omega)).2
  have bD2 := (ses_lt H.out.2.1 (by omega) (by omega)).1
  have bG2 := (ses_lt H.out.2.1 (by omega) (by omega)).2
  have HBL := Lib.hid (And.intro bD (And.intro bG (And.intro bD2 bG2)))
  have HZ : Hid (g13 < w2.heap.size ∧ g10 < w2.heap.size ∧ g8 < w2.heap.size ∧ g7 < w2.heap.size ∧ w.heap.size ≤ w2.heap.size) := ⟨z16, z10, z8, z7, zw⟩
  clear z16 z10 z8 z7 zw bD bG bD2 bG2
  refine kl_clone w2.heap.size rfl _ m _ P hBp (by omega) rfl rfl rfl rfl rfl rfl ?_
  intro vc w3 hown hb
  have hL := hL.next hb
  have H := Lib.hid (show SesM w3 s D G ∧ SesM w3 s D2 G2 ∧ FrmM w3 F (.slice none 0 0) from ⟨H.out.1.keep (.of_below hb), H.out.2.1.keep (.of_below hb), H.out.2.2.keep (.of_below hb)⟩)
  have HFA := Lib.hid (HFA.out.keep (.of_below hb))
  obtain ⟨gc, cc, rfl, hgc, hgl, hcc1, hcc2⟩ := own_form hown hm1
  have HO := Lib.hid hown
  have l8 := hL.lt 2 rfl
  have l10 := hL.lt 1 rfl
  have HDA : Hid (0 < a.f.data.length → ∀ b o n' c, DA = .slice (some ⟨b, o, none⟩) n' c → b < w3.heap.size) := fun h b o n' c e => by have h2 := HFA.out.data; rw [e] at h2; exact h2.lt h
  clear hb hown hBp s0 s1 s2 s3 s4 s5 y1 y2 y3 y4 x1 x2 x3 x4
  refine kl_build 29 _ (frmV ⟨2, 3, 0, (p : Int), z32, P⟩ (.slice (some ⟨gc, 0, none⟩) m cc)).toArray rfl rfl rfl (by rfl) (by rfl) (frm_litd 2 3 (p : Int) (.slice (some ⟨gc, 0, none⟩) m cc) rfl P) ?_
  refine kl_varL (cells := (frmV ⟨2, 3, 0, (p : Int), z32, P⟩ (.slice (some ⟨gc, 0, none⟩) m cc)).toArray) hL frmZero (infoF ⟨2, 3, 0, (p : Int), z32, P⟩ _ z32_len) (sizeZF ⟨2, 3, 0, (p : Int), z32, P⟩ _ z32_len) (frmV_one _ _ rfl) rfl rfl rfl rfl rfl rfl rfl rfl rfl ?_
  intro g16 w4 eg hb hL
  have H := Lib.hid (show SesM w4 s D G ∧ SesM w4 s D2 G2 ∧ FrmM w4 F (.slice none 0 0) from ⟨H.out.1.keep (.of_below hb), H.out.2.1.keep (.of_below hb), H.out.2.2.keep (.of_below hb)⟩)
  have HFA := Lib.hid (HFA.out.keep (.of_below hb))
  have HO := Lib.hid (own_below HO.out hb)
  have n16 : gc ≠ g16 := by omega
  have hgc16 : Hid (w2.heap.size ≤ g16) := by show _ ≤ _; omega
  have hdA : 0 < a.f.data.length → ∀ b o n' c, DA = .slice (some ⟨b, o, none⟩) n' c → b ≠ g16 := fun h b o n' c e => by have := HDA.out h b o n' c e; omega
  have HDN := Lib.hid hdA
  clear hdA
  clear eg hb
  refine kl_nil ?_
  refine kq_then ?_
  refine KW.less [0, 1, 7, 8, 10, 12, 13, 15, 16] ?_
  simp only [nrm, lk, Nat.reduceBEq, cond_true, cond_false]
  have a0 := hL.get (j := 0) 1 rfl (act_0 a DA)
  have a2 := hL.get (j := 2) 1 rfl (act_2 a DA)
  clear a1
  repeat (first | refine kw_seq ?_ | refine kw_region ?_ | refine kl_nil ?_ | refine kq_then ?_ | (first | refine kl_move rfl rfl (.inl rfl) rfl rfl ?_ | refine kl_move rfl rfl (.inr rfl) rfl rfl ?_ | refine kl_const rfl rfl (.inl rfl) rfl ?_ | refine kl_const rfl rfl (.inr rfl) rfl ?_) | ((first | refine kl_step rfl rfl rfl fun K hK => ?_ | refine kl_step0 rfl rfl rfl fun K hK => ?_); go_simp; (try go_bits); (first | refine hK _ _ ?_ | refine hK _ ?_); clear hK K))
  refine kl_call rfl rfl rfl Try.func15 rfl (by kernel_rfl) rfl ?_
  refine Calls.mono (within_any a.kind 9 _ w4 rfl (by omega) (by omega)) ?_
  rintro e _ ⟨rfl, rfl⟩
  refine ⟨_, rfl, ?_⟩
  have hk := within_lt a.kind 9 (by omega)
  generalize within a.kind 9 = K at hk ⊢
  refine kl_nil ?_
  refine kq_then ?_
  have HSES : Hid (I64 3 ∧ I64 2 ∧ I64 (p : Int)) := by refine ⟨?_, ?_, ?_⟩ <;> (unfold I64; omega)
  have HCF : Hid (FrmM w4 ⟨2, 3, 0, (p : Int), z32, P⟩ (.slice (some ⟨gc, 0, none⟩) m cc)) := by
    obtain ⟨A5, c5, e5, o1, o2, o3, _⟩ := own_slice HO.out
    injection e5 with e51 _ e53
    subst e51; subst e53
    exact ⟨HSES.out.2.1, HSES.out.1, by show I64 0; unfold I64; omega, HSES.out.2.2, z32_len, ⟨_, _, _, rfl, o3, o1, by simpa [maxLen] using o2⟩⟩
  have hlay : Hid (Lay w w4 _) := hL
  by_cases k6 : K = 6
  · have e6 : ((K : Int) == 6) = true := by rw [beq_iff_eq]; omega
    clear k6 hk
    refine kw_block ?_
    repeat (first | refine kw_seq ?_ | refine kw_region ?_ | refine kl_nil ?_ | refine kq_then ?_ | refine kw_ift rfl ?_ | refine kl_load_mid 29 g13 3 _ _ (act_range (hL.at_ 1 rfl)) Try.underlying29 rfl (by rw [frmInfo, length_frmV _ _ HFS.out]) rfl rfl rfl rfl rfl ?_ | refine kl_putL (cells := (frmV a.f DA).toArray) hL 0 rfl (infoF a.f DA HFS.out) (by simp [length_frmV _ _ HFS.out, length_frmV ⟨2, 3, 0, (p : Int), z32, P⟩ _ z32_len]) (frmV_one _ _ HFA.out.data.one) rfl rfl rfl rfl rfl (fun hL2 => ?_) | (first | refine kl_move rfl rfl (.inl rfl) rfl rfl ?_ | refine kl_move rfl rfl (.inr rfl) rfl rfl ?_ | refine kl_const rfl rfl (.inl rfl) rfl ?_ | refine kl_const rfl rfl (.inr rfl) rfl ?_) | ((first | refine kl_step rfl rfl rfl fun K hK => ?_ | refine kl_step0 rfl rfl rfl fun K hK => ?_); go_simp; (try go_bits); (first | refine hK _ _ ?_ | refine hK _ ?_); clear hK K))
    refine kq_block ?_
    refine kq_then ?_
    refine KW.less [0, 1, 7, 8, 10, 12, 16] ?_
    simp only [nrm, lk, Nat.reduceBEq, cond_true, cond_false]
    have hh := HBL.out
    have hz := HZ.out
    have hg16 := hgc16.out
    have H := Lib.hid (show SesM (w4.setRow g16 (frmV a.f DA).toArray) s D G ∧ SesM (w4.setRow g16 (frmV a.f DA).toArray) s D2 G2 ∧ FrmM (w4.setRow g16 (frmV a.f DA).toArray) F (.slice none 0 0) from
      ⟨H.out.1.row (fun b o n' c e => by have := hh.1 b o n' c e; omega) (fun b o n' c e => by have := hh.2.1 b o n' c e; omega) _, H.out.2.1.row (fun b o n' c e => by have := hh.2.2.1 b o n' c e; omega) (fun b o n' c e => by have := hh.2.2.2 b o n' c e; omega) _, H.out.2.2.row (fun b o n' c e => by injection e with e _ _; cases e) _⟩)
    have HC := Lib.hid (FrmM.row0p HFA.out HDN.out (frmV a.f DA).toArray)
    have hL := hL2
    refine plays_back ⟨hL.tail.tail, H.out.1, H.out.2.1, H.out.2.2, fun b o n' c e => by injection e with e _ _; cases e⟩ hL HC.out nD2 nG2 hs hd hg h0 hn rfl ?_
    intro wr' D' G' E' H' hP nE nH
    exact kq_block (HQ.out wr' _ D' G' E' H' hP nE nH (by rw [chunkS_size]; exact hs) (chunkS_data hs hd) (chunkS_got hs hg))
  by_cases k7 : K = 7
  · have e6 : ((K : Int) == 6) = false := by rw [beq_eq_false_iff_ne]; omega
    have e7 : ((K : Int) == 7) = true := by rw [beq_iff_eq]; omega
    clear k6 k7 hk
    refine kw_block ?_
    repeat (first | refine kw_seq ?_ | refine kw_region ?_ | refine kl_nil ?_ | refine kq_then ?_ | refine kw_ift rfl ?_ | refine kw_iff rfl ?_ | (first | refine kl_move rfl rfl (.inl rfl) rfl rfl ?_ | refine kl_move rfl rfl (.inr rfl) rfl rfl ?_ | refine kl_const rfl rfl (.inl rfl) rfl ?_ | refine kl_const rfl rfl (.inr rfl) rfl ?_) | ((first | refine kl_step rfl rfl rfl fun K hK => ?_ | refine kl_step0 rfl rfl rfl fun K hK => ?_); go_simp; (try go_bits); (first | refine hK _ _ ?_ | refine hK _ ?_); clear hK K))
    have c36 := fun W (h : Hold [(g16, .cells (frmV (⟨2, 3, 0, (p : Int), z32, P⟩) (.slice (some ⟨gc, 0, none⟩) m cc)).toArray 29 (0, 0)), (g13, .cells (actV a DA).toArray 44 (0, 0))] W) => Hold.cell 0 rfl (frm_36 ⟨2, 3, 0, (p : Int), z32, P⟩ (.slice (some ⟨gc, 0, none⟩) m cc) z32_len) W h
    have c2 := fun W (h : Hold [(g16, .cells (frmV (⟨2, 3, 0, (p : Int), z32, P⟩) (.slice (some ⟨gc, 0, none⟩) m cc)).toArray 29 (0, 0)), (g13, .cells (actV a DA).toArray 44 (0, 0))] W) => Hold.cell 1 rfl (act_2 a DA) W h
    clear a0 a2
    refine kw_region_f (Hold [(g16, .cells (frmV (⟨2, 3, 0, (p : Int), z32, P⟩) (.slice (some ⟨gc, 0, none⟩) m cc)).toArray 29 (0, 0)), (g13, .cells (actV a DA).toArray 44 (0, 0))]) [true, true, true, true, true, true, false, true, false, true, true, false] (by kernel_rfl) (by kernel_rfl) (.cons (hL.drew.at_ 0 rfl) (.cons (hL.drew.at_ 1 rfl) (.nil _))) ?_
    repeat (first | refine kf_nil ?_ | refine kf_ung rfl rfl ?_ | refine kf_skipg rfl rfl rfl rfl ?_ | (first | refine kf_move rfl rfl (.inl rfl) rfl rfl ?_ | refine kf_move rfl rfl (.inr rfl) rfl rfl ?_ | refine kf_const rfl rfl (.inl rfl) rfl ?_ | refine kf_const rfl rfl (.inr rfl) rfl ?_) | (refine kf_val rfl rfl rfl ?_; apply Exists.intro; refine And.intro (fun W hW N hN => ?_) ?_; · (go_simp; (try go_bits); exact hN)))
    generalize wrap64 (a.n.tdiv 64) = zq
    refine kf_ch ?_
    refine kl_call rfl rfl rfl Try.func15 rfl (by kernel_rfl) rfl ?_
    refine Calls.mono (within_any zq m _ w4.drew rfl hm1 (by omega)) ?_
    rintro e _ ⟨rfl, rfl⟩
    refine ⟨_, rfl, ?_⟩
    have hj := within_lt zq m hm1
    generalize within zq m = j at hj ⊢
    have hLd := hL.drew
    refine kl_nil ?_
    refine kq_f (.cons (hLd.at_ 0 rfl) (.cons (hLd.at_ 1 rfl) (.nil _))) ?_
    have j0 : (0 : Int) ≤ j := by omega
    have j1 : (j : Int) < m := by omega
    repeat (first | refine kf_nil ?_ | refine kf_ung rfl rfl ?_ | refine kf_skipg rfl rfl rfl rfl ?_ | (first | refine kf_move rfl rfl (.inl rfl) rfl rfl ?_ | refine kf_move rfl rfl (.inr rfl) rfl rfl ?_ | refine kf_const rfl rfl (.inl rfl) rfl ?_ | refine kf_const rfl rfl (.inr rfl) rfl ?_) | (refine kf_val rfl rfl rfl ?_; apply Exists.intro; refine And.intro (fun W hW N hN => ?_) ?_; · (go_simp; (try go_bits); exact hN)))
    obtain ⟨x, hx⟩ : ∃ x, P[j]? = some x := ⟨_, List.getElem?_eq_getElem (by rw [HPL.out]; exact hj)⟩
    have hOd : w4.drew.ownsRow w2.heap.size 5 1 (.slice (some ⟨gc, 0, none⟩) m cc) m (bv P) := HO.out
    have cx : w4.cell? ⟨gc, j, none⟩ = some (.int .u8 (x.toNat : Int)) := own_cell HO.out hx
    have fx : w4.frozen? ⟨gc, j, none⟩ = false := own_free HO.out
    have exr : bits .xor .u8 (x.toNat : Int) 4 = ((x ^^^ 4 : UInt8).toNat : Int) := u8_xor_u x 4
    obtain ⟨y, hy⟩ : ∃ y : UInt8, x ^^^ 4 = y := ⟨_, rfl⟩
    rw [hy] at exr
    refine kf_ch ?_
    ((first | refine kl_step rfl rfl rfl fun K hK => ?_ | refine kl_step0 rfl rfl rfl fun K hK => ?_); go_simp; (try go_bits); (first | refine hK _ _ ?_ | refine hK _ ?_); clear hK K)
    refine kl_nil ?_
    refine kq_f (.cons (hLd.at_ 0 rfl) (.cons (hLd.at_ 1 rfl) (.nil _))) ?_
    repeat (first | refine kf_nil ?_ | refine kf_ung rfl rfl ?_ | refine kf_skipg rfl rfl rfl rfl ?_ | (first | refine kf_move rfl rfl (.inl rfl) rfl rfl ?_ | refine kf_move rfl rfl (.inr rfl) rfl rfl ?_ | refine kf_const rfl rfl (.inl rfl) rfl ?_ | refine kf_const rfl rfl (.inr rfl) rfl ?_) | (refine kf_val rfl rfl rfl ?_; apply Exists.intro; refine And.intro (fun W hW N hN => ?_) ?_; · (go_simp; (try go_bits); exact hN)))
    refine kf_ch ?_
    ((first | refine kl_step rfl rfl rfl fun K hK => ?_ | refine kl_step0 rfl rfl rfl fun K hK => ?_); go_simp; (try go_bits); (first | refine hK _ _ ?_ | refine hK _ ?_); clear hK K)
    refine kl_nil ?_
    have hz := HZ.out
    have hh := HBL.out
    have hg16 := hgc16.out
    have hL2 := hLd.far ⟨gc, j, none⟩ (.int .u8 (y.toNat : Int)) (by intro q hq; simp only [List.mem_cons, List.not_mem_nil, or_false] at hq; rcases hq with rfl | rfl | rfl | rfl | rfl <;> simp only <;> omega) (by show w.heap.size ≤ gc; omega)
    refine kq_f (.cons (hL2.at_ 0 rfl) (.cons (hL2.at_ 1 rfl) (.nil _))) ?_
    repeat (first | refine kf_nil ?_ | refine kf_ung rfl rfl ?_ | refine kf_skipg rfl rfl rfl rfl ?_ | (first | refine kf_move rfl rfl (.inl rfl) rfl rfl ?_ | refine kf_move rfl rfl (.inr rfl) rfl rfl ?_ | refine kf_const rfl rfl (.inl rfl) rfl ?_ | refine kf_const rfl rfl (.inr rfl) rfl ?_) | (refine kf_val rfl rfl rfl ?_; apply Exists.intro; refine And.intro (fun W hW N hN => ?_) ?_; · (go_simp; (try go_bits); exact hN)))
    have hO2 := own_set hOd j y
    have H := Lib.hid (show SesM (w4.drew.setCell ⟨gc, j, none⟩ (.int .u8 (y.toNat : Int))) s D G ∧ SesM (w4.drew.setCell ⟨gc, j, none⟩ (.int .u8 (y.toNat : Int))) s D2 G2 ∧ FrmM (w4.drew.setCell ⟨gc, j, none⟩ (.int .u8 (y.toNat : Int))) F (.slice none 0 0) from
      ⟨⟨H.out.1.id, H.out.1.size, H.out.1.sum, (H.out.1.data.keep (.drew _)).set (fun b o n' c e => by have := hh.1 b o n' c e; show b ≠ gc; omega) _, (H.out.1.got.keep (.drew _)).set (fun b o n' c e => by have := hh.2.1 b o n' c e; show b ≠ gc; omega) _⟩,
       ⟨H.out.2.1.id, H.out.2.1.size, H.out.2.1.sum, (H.out.2.1.data.keep (.drew _)).set (fun b o n' c e => by have := hh.2.2.1 b o n' c e; show b ≠ gc; omega) _, (H.out.2.1.got.keep (.drew _)).set (fun b o n' c e => by have := hh.2.2.2 b o n' c e; show b ≠ gc; omega) _⟩,
       ⟨H.out.2.2.kind, H.out.2.2.id, H.out.2.2.size, H.out.2.2.at_, H.out.2.2.sum, (H.out.2.2.data.keep (.drew _)).set (fun b o n' c e => by injection e with e _ _; cases e) _⟩⟩)
    have HC : Hid (FrmM (w4.drew.setCell ⟨gc, j, none⟩ (.int .u8 (y.toNat : Int))) ⟨2, 3, 0, (p : Int), z32, P.set j y⟩ (.slice (some ⟨gc, 0, none⟩) m cc)) := by
      obtain ⟨A5, c5, e5, o1, o2, o3, _⟩ := own_slice hO2
      injection e5 with e51 _ e53
      subst e51; subst e53
      exact ⟨HSES.out.2.1, HSES.out.1, by show I64 0; unfold I64; omega, HSES.out.2.2, z32_len, ⟨_, _, _, rfl, o3, o1, by simpa [maxLen] using o2⟩⟩
    clear hOd hO2 cx fx exr c36 c2 hx hy hL
    have hL : Lay w (w4.drew.setCell ⟨gc, j, none⟩ (.int .u8 (y.toNat : Int))) [(g16, (frmV ⟨2, 3, 0, (p : Int), z32, P.set j y⟩ (.slice (some ⟨gc, 0, none⟩) m cc)).toArray, 29), (g13, (actV a DA).toArray, 44), (g10, (sesV s D2 G2).toArray, 36), (g8, (sesV s D G).toArray, 32), (g7, (frmV F (.slice none 0 0)).toArray, 29)] := hL2
    show KQ _ _ _ _ (w4.drew.setCell ⟨gc, j, none⟩ (.int .u8 (y.toNat : Int)))
    generalize (w4.drew.setCell ⟨gc, j, none⟩ (.int .u8 (y.toNat : Int))) = w5 at *
    refine kq_block ?_
    refine kq_then ?_
    refine KW.less [0, 1, 7, 8, 10, 12, 16] ?_
    simp only [nrm, lk, Nat.reduceBEq, cond_true, cond_false]
    refine plays_back ⟨hL.tail.tail, H.out.1, H.out.2.1, H.out.2.2, fun b o n' c e => by injection e with e _ _; cases e⟩ hL HC.out nD2 nG2 hs hd hg h0 hn rfl ?_
    intro wr' D' G' E' H' hP nE nH
    exact kq_block (HQ.out wr' _ D' G' E' H' hP nE nH (by rw [chunkS_size]; exact hs) (chunkS_data hs hd) (chunkS_got hs hg))
  by_cases k8 : K = 8
  · have e6 : ((K : Int) == 6) = false := by rw [beq_eq_false_iff_ne]; omega
    have e7 : ((K : Int) == 7) = false := by rw [beq_eq_false_iff_ne]; omega
    have e8 : ((K : Int) == 8) = true := by rw [beq_iff_eq]; omega
    clear k6 k7 k8 hk
    have HI := Lib.hid (infoS (beginS F))
    refine kw_block ?_
    repeat (first | refine kw_seq ?_ | refine kw_region ?_ | refine kl_nil ?_ | refine kq_then ?_ | refine kw_ift rfl ?_ | refine kw_iff rfl ?_ | refine kl_getL hL 4 rfl Try.underlying29 rfl (infoF F _ HF.out.sum) rfl rfl rfl rfl rfl ?_ | (first | refine kl_move rfl rfl (.inl rfl) rfl rfl ?_ | refine kl_move rfl rfl (.inr rfl) rfl rfl ?_ | refine kl_const rfl rfl (.inl rfl) rfl ?_ | refine kl_const rfl rfl (.inr rfl) rfl ?_) | ((first | refine kl_step rfl rfl rfl fun K hK => ?_ | refine kl_step0 rfl rfl rfl fun K hK => ?_); go_simp; (try go_bits); (first | refine hK _ _ ?_ | refine hK _ ?_); clear hK K))
    refine kl_call rfl rfl rfl Try.func9 rfl (by kernel_rfl) rfl ?_
    refine Calls.mono (begin_any F _ w4 H.out.2.2) ?_
    rintro e w5 ⟨D', G', rfl, hM1, hb, hF1, hF2⟩
    have p8 := hL.lt 3 rfl
    have p10 := hL.lt 2 rfl
    have hL := hL.next hb
    have hh := HBL.out
    have hz := HZ.out
    have hg16 := hgc16.out
    have q16 := hL.lt 0 rfl
    have hsz := hb.size
    have hFw := H.out.2.2.keep (.of_below hb)
    have HC := Lib.hid (HCF.out.keep (.of_below hb))
    have HM1 := Lib.hid hM1
    have HBS := Lib.hid hM1.sum
    have nD' : NE g8 D' := fun b o n' c e => by have := hF1 b o n' c e; omega
    have nG' : NE g8 G' := fun b o n' c e => by have := hF2 b o n' c e; omega
    have mD' : NE g10 D' := fun b o n' c e => by have := hF1 b o n' c e; omega
    have mG' : NE g10 G' := fun b o n' c e => by have := hF2 b o n' c e; omega
    have HFW := Lib.hid hFw
    clear hM1 hb hFw
    refine ⟨_, rfl, ?_⟩
    obtain ⟨S0, hS0⟩ : ∃ S0, beginS F = S0 := ⟨_, rfl⟩
    obtain ⟨E0, hE0⟩ : ∃ E0, beginE F = E0 := ⟨_, rfl⟩
    rw [hS0] at HM1 HBS hb1 hb2 hb3 ⊢
    rw [hE0]
    have HS0 := Lib.hid hS0
    have HE0 := Lib.hid hE0
    clear hS0 hE0
    repeat (first | refine kl_putL (cells := (sesV S0 D' G').toArray) hL 3 rfl (infoS S0 _ _ HBS.out) (sizeS s S0 _ _ _ _ H.out.1.sum HBS.out) (sesV_one S0 _ _ HM1.out.data.one HM1.out.got.one) rfl rfl rfl rfl rfl (fun hL2 => ?_) | (first | refine kl_move rfl rfl (.inl rfl) rfl rfl ?_ | refine kl_move rfl rfl (.inr rfl) rfl rfl ?_ | refine kl_const rfl rfl (.inl rfl) rfl ?_ | refine kl_const rfl rfl (.inr rfl) rfl ?_) | ((first | refine kl_step rfl rfl rfl fun K hK => ?_ | refine kl_step0 rfl rfl rfl fun K hK => ?_); go_simp; (try go_bits); (first | refine hK _ _ ?_ | refine hK _ ?_); clear hK K))
    refine kl_nil ?_
    refine kq_then ?_
    obtain ⟨w6, hw6⟩ : ∃ w6, w6 = w5.setRow g8 (sesV S0 D' G').toArray := ⟨_, rfl⟩
    have HM1 := Lib.hid (HM1.out.row nD' nG' (sesV S0 D' G').toArray)
    have HFW := Lib.hid (HFW.out.row (g := g8) (fun b o n' c e => by injection e with e _ _; cases e) (sesV S0 D' G').toArray)
    have HC := Lib.hid (FrmM.row HC.out (g := g8) (fun b o n' c e => by injection e with e _ _; injection e with e; injection e with e _; omega) (sesV S0 D' G').toArray)
    rw [← hw6] at HM1 HFW HC hL2 ⊢
    clear hw6 hL
    have hL := hL2
    clear hL2
    repeat (first | refine kw_seq ?_ | refine kw_region ?_ | refine kl_getL hL 4 rfl Try.underlying29 rfl (infoF F _ HF.out.sum) rfl rfl rfl rfl rfl ?_)
    refine kl_call rfl rfl rfl Try.func11 rfl (by kernel_rfl) rfl ?_
    refine Calls.mono (of17_any F _ w6 HFW.out) ?_
    rintro e w7 ⟨rfl, hb⟩
    have hL := hL.next hb
    have HM1 := Lib.hid (HM1.out.keep (.of_below hb))
    have HFW := Lib.hid (HFW.out.keep (.of_below hb))
    have HC := Lib.hid (HC.out.keep (.of_below hb))
    clear hb
    refine ⟨_, rfl, ?_⟩
    refine kl_call rfl rfl rfl Try.func10 rfl (by kernel_rfl) rfl ?_
    refine Calls.mono (rbegin_any F _ w7 HFW.out) ?_
    rintro e w8 ⟨E', H', rfl, hM2, hb, hF3, hF4⟩
    have r8 := hL.lt 3 rfl
    have r10 := hL.lt 2 rfl
    have hL := hL.next hb
    have HM1 := Lib.hid (HM1.out.keep (.of_below hb))
    have HFW := Lib.hid (HFW.out.keep (.of_below hb))
    have HC := Lib.hid (HC.out.keep (.of_below hb))
    rw [HS0.out] at hM2 ⊢
    rw [HE0.out]
    have HM2 := Lib.hid hM2
    have nE := NB.fr hF3 r8 r10
    have nH := NB.fr hF4 r8 r10
    clear hM2 hb
    refine ⟨_, rfl, ?_⟩
    repeat (first | refine kl_putL (cells := (sesV S0 E' H').toArray) hL 2 rfl (rinfoS S0 _ _ HBS.out) (sizeS s S0 _ _ _ _ H.out.1.sum HBS.out) (sesV_one S0 _ _ HM2.out.data.one HM2.out.got.one) rfl rfl rfl rfl rfl (fun hL2 => ?_) | (first | refine kl_move rfl rfl (.inl rfl) rfl rfl ?_ | refine kl_move rfl rfl (.inr rfl) rfl rfl ?_ | refine kl_const rfl rfl (.inl rfl) rfl ?_ | refine kl_const rfl rfl (.inr rfl) rfl ?_) | ((first | refine kl_step rfl rfl rfl fun K hK => ?_ | refine kl_step0 rfl rfl rfl fun K hK => ?_); go_simp; (try go_bits); (first | refine hK _ _ ?_ | refine hK _ ?_); clear hK K))
    refine kl_nil ?_
    refine kq_block ?_
    refine kq_then ?_
    refine KW.less [0, 1, 7, 8, 10, 12, 16] ?_
    simp only [nrm, lk, Nat.reduceBEq, cond_true, cond_false]
    have hM1 := HM1.out.row mD' mG' (sesV S0 E' H').toArray
    have hM2 := HM2.out.row (g := g10) (fun b o n' c e => (nE b o n' c e).2) (fun b o n' c e => (nH b o n' c e).2) (sesV S0 E' H').toArray
    have hFW := HFW.out.row (g := g10) (fun b o n' c e => by injection e with e _ _; cases e) (sesV S0 E' H').toArray
    have HC := Lib.hid (FrmM.row HC.out (g := g10) (fun b o n' c e => by injection e with e _ _; injection e with e; injection e with e _; omega) (sesV S0 E' H').toArray)
    refine plays_back ⟨hL2.tail.tail, hM1, hM2, hFW, fun b o n' c e => by injection e with e _ _; cases e⟩ hL2 HC.out nE nH hb1 hb2 hb3 h0 hn rfl ?_
    intro wr' D1 G1 E1 H1 hP kE kH
    exact kq_block (HQ.out wr' _ D1 G1 E1 H1 hP kE kH (by rw [chunkS_size]; exact hb1) (chunkS_data hb1 hb2) (chunkS_got hb1 hb3))
  have e6 : ((K : Int) == 6) = false := by rw [beq_eq_false_iff_ne]; omega
  have e7 : ((K : Int) == 7) = false := by rw [beq_eq_false_iff_ne]; omega
  have e8 : ((K : Int) == 8) = false := by rw [beq_eq_false_iff_ne]; omega
  clear k6 k7 k8 hk
  refine kw_block ?_
  repeat (first | refine kw_seq ?_ | refine kw_region ?_ | refine kl_nil ?_ | refine kq_then ?_ | refine kw_iff rfl ?_ | refine kw_skip ?_ | (first | refine kl_move rfl rfl (.inl rfl) rfl rfl ?_ | refine kl_move rfl rfl (.inr rfl) rfl rfl ?_ | refine kl_const rfl rfl (.inl rfl) rfl ?_ | refine kl_const rfl rfl (.inr rfl) rfl ?_) | ((first | refine kl_step rfl rfl rfl fun K hK => ?_ | refine kl_step0 rfl rfl rfl fun K hK => ?_); go_simp; (try go_bits); (first | refine hK _ _ ?_ | refine hK _ ?_); clear hK K))
  refine kq_block ?_
  refine kq_then ?_
  refine KW.less [0, 1, 7, 8, 10, 12, 16] ?_
  simp only [nrm, lk, Nat.reduceBEq, cond_true, cond_false]
  have HC := HCF
  refine plays_back ⟨hL.tail.tail, H.out.1, H.out.2.1, H.out.2.2, fun b o n' c e => by injection e with e _ _; cases e⟩ hL HC.out nD2 nG2 hs hd hg h0 hn rfl ?_
  intro wr' D' G' E' H' hP nE nH
  exact kq_block (HQ.out wr' _ D' G' E' H' hP nE nH (by rw [chunkS_size]; exact hs) (chunkS_data hs hd) (chunkS_got hs hg))
end Go.Proofs.Ytkgenkkcgegcbaa
