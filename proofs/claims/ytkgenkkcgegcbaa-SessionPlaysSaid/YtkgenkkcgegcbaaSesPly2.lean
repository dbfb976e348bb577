/- SessionPlays: the end of a round. -/
import Derived.Test.YtkgenkkcgegcbaaSesWholeR
import Derived.Test.YtkgenkkcgegcbaaSesSameR
import Derived.Test.YtkgenkkcgegcbaaSesChunkM
import Derived.Test.YtkgenkkcgegcbaaSesBeginR
import Derived.Test.YtkgenkkcgegcbaaSesParE
import Derived.Test.YtkgenkkcgegcbaaSesChkR
import Derived.Test.YtkgenkkcgegcbaaKnT
namespace Go.Proofs.Ytkgenkkcgegcbaa
open Go.RowKit
attribute [local go_sem] ev_tmp ev_const ev_func ev_global lk_hit lk_miss uponK_value uponK_skip look_tmp look_const look_global look_func valP_value
theorem Lay.tail {w0 w : World} {g : Nat} {cs : Array Value} {t : TypeId} {V : Vars} (h : Lay w0 w ((g, cs, t) :: V)) : Lay w0 w V := ⟨h.below, h.vars.2.2.2⟩
def NB (g8 g10 : Nat) (v : Value) : Prop := ∀ b o n c, v = .slice (some ⟨b, o, none⟩) n c → b ≠ g8 ∧ b ≠ g10
def NE (g : Nat) (v : Value) : Prop := ∀ b o n c, v = .slice (some ⟨b, o, none⟩) n c → b ≠ g
/-- between two rounds: both sessions are s -/
structure PlS (w : World) (g7 g8 g10 : Nat) (F : Frm) (DF : Value) (s : Ses) (D G D2 G2 : Value) (wr : World) : Prop where
  lay : Lay w wr [(g10, (sesV s D2 G2).toArray, 36), (g8, (sesV s D G).toArray, 32), (g7, (frmV F DF).toArray, 29)]
  s1 : SesM wr s D G
  s2 : SesM wr s D2 G2
  frm : FrmM wr F DF
  nF : NB g8 g10 DF
theorem NB.fr {g8 g10 B : Nat} {v : Value} (h : Fr B v) (h8 : g8 < B) (h10 : g10 < B) : NB g8 g10 v := fun b o n c e => by have := h b o n c e; exact ⟨by omega, by omega⟩
theorem NB.or {g8 g10 B : Nat} {v v' : Value} (h : v' = v ∨ Fr B v') (hv : NB g8 g10 v) (h8 : g8 < B) (h10 : g10 < B) : NB g8 g10 v' := by
  rcases h with rfl | h
  · exact hv
  · exact NB.fr h h8 h10
theorem NE.or {g B : Nat} {v v' : Value} (h : v' = v ∨ Fr B v') (hv : NE g v) (hB : g < B) : NE g v' := by
  rcases h with rfl | h
  · exact hv
  · intro b o n c e; have := h b o n c e; omega
theorem ses_lt {w : World} {s : Ses} {D G : Value} (h : SesM w s D G) (hd : 0 < s.data.length) (hg : 0 < s.got.length) : (∀ b o n c, D = .slice (some ⟨b, o, none⟩) n c → b < w.heap.size) ∧ (∀ b o n c, G = .slice (some ⟨b, o, none⟩) n c → b < w.heap.size) := by
  refine ⟨fun b o n c e => ?_, fun b o n c e => ?_⟩
  · subst e; exact h.data.lt hd
  · subst e
    obtain ⟨A, n', c', e, hv, _⟩ := h.got
    injection e with e1 e2 e3
    subst e1
    have hl := hv.1
    rw [length_bls] at hl
    obtain ⟨b', o', u, e', hc, _⟩ := Vs.next hv (by omega : 0 < n')
    injection e' with e'; injection e' with e' _
    subst e'
    exact World.block_lt_of_cell? w _ hc
theorem SesM.row {w : World} {s : Ses} {D G : Value} (h : SesM w s D G) {g : Nat} (h1 : NE g D) (h2 : NE g G) (cs : Array Value) : SesM (w.setRow g cs) s D G := ⟨h.id, h.size, h.sum, h.data.row h1 _, h.got.row h2 _⟩
theorem chunkS_size (s : Ses) (f : Frm) : (chunkS s f).size = s.size := by unfold chunkS; split <;> rfl
theorem chunkS_sum (s : Ses) (f : Frm) : (chunkS s f).sum = s.sum := by unfold chunkS; split <;> rfl
theorem chunk_fits {s : Ses} {f : Frm} {n : Nat} (hs : s.size = n) (h : chunkE s f = 0) : f.at_.toNat + f.data.length ≤ n := by
  unfold chunkE at h
  split at h
  · cases h
  · split at h
    · cases h
    · rename_i hb
      unfold argBad at hb
      rw [hs] at hb
      omega
theorem chunkS_data {s : Ses} {f : Frm} {n : Nat} (hs : s.size = n) (hd : s.data.length = n) : (chunkS s f).data.length = n := by
  unfold chunkS
  split
  · rename_i h
    have := chunk_fits hs h
    rw [length_layK _ _ _ _ (Nat.le_refl _) (by rw [hd]; exact this)]
    exact hd
  · exact hd
theorem chunkS_got {s : Ses} {f : Frm} {n : Nat} (hs : s.size = n) (hg : s.got.length = n) : (chunkS s f).got.length = n := by
  unfold chunkS
  split
  · rename_i h
    have := chunk_fits hs h
    rw [length_layK _ _ _ _ (by simp) (by rw [hg]; exact this)]
    exact hg
  · exact hg
/-- the vars of a round's end -/
structure PlT (w : World) (g7 g8 g10 g13 g16 g17 g19 : Nat) (F : Frm) (DF : Value) (s T : Ses) (D G D2 G2 D' G' E' H' : Value) (c13 c16 : Array Value) (t13 t16 : TypeId) (wr : World) : Prop where
  lay : Lay w wr [(g19, (sesV T E' H').toArray, 36), (g17, (sesV T D' G').toArray, 32), (g16, c16, t16), (g13, c13, t13), (g10, (sesV s D2 G2).toArray, 36), (g8, (sesV s D G).toArray, 32), (g7, (frmV F DF).toArray, 29)]
  s1 : SesM wr s D G
  s2 : SesM wr s D2 G2
  t1 : SesM wr T D' G'
  t2 : SesM wr T E' H'
  frm : FrmM wr F DF
  nF : NB g8 g10 DF
  nD : NB g8 g10 D'
  nG : NB g8 g10 G'
  nE : NB g8 g10 E'
  nH : NB g8 g10 H'
theorem PlT.next {w wr wr' : World} {g7 g8 g10 g13 g16 g17 g19 : Nat} {F : Frm} {DF : Value} {s T : Ses} {D G D2 G2 D' G' E' H' : Value} {c13 c16 : Array Value} {t13 t16 : TypeId} (h : PlT w g7 g8 g10 g13 g16 g17 g19 F DF s T D G D2 G2 D' G' E' H' c13 c16 t13 t16 wr) (hb : Below wr.heap.size wr wr') :
    PlT w g7 g8 g10 g13 g16 g17 g19 F DF s T D G D2 G2 D' G' E' H' c13 c16 t13 t16 wr' :=
  ⟨h.lay.next hb, h.s1.keep (.of_below hb), h.s2.keep (.of_below hb), h.t1.keep (.of_below hb), h.t2.keep (.of_below hb), h.frm.keep (.of_below hb), h.nF, h.nD, h.nG, h.nE, h.nH⟩
set_option maxRecDepth 100000 in
set_option maxHeartbeats 4000000 in
theorem plays_tail {Q : Exit → Act → World → Prop} {w wr : World} {n g7 g8 g10 g13 g16 g17 g19 : Nat} {s T : Ses} {F : Frm} {DF D G D2 G2 D' G' E' H' V0 V1 V12 : Value} {c13 c16 : Array Value} {t13 t16 : TypeId} {E : Int}
    (h : PlT w g7 g8 g10 g13 g16 g17 g19 F DF s T D G D2 G2 D' G' E' H' c13 c16 t13 t16 wr) (hd : T.data.length = n) (hg : T.got.length = n) (hn : n ≤ 300)
    (hQ : ∀ wr', PlS w g7 g8 g10 F DF T D' G' E' H' wr' → KQ Q .normal 205 [(0, V0), (1, V1), (7, .pointer (some ⟨g7, 0, none⟩)), (8, .pointer (some ⟨g8, 0, none⟩)), (10, .pointer (some ⟨g10, 0, none⟩)), (12, V12)] wr') :
    KW Try.prog (rowAt Try.f3 31) Q 205 [(0, V0), (1, V1), (7, .pointer (some ⟨g7, 0, none⟩)), (8, .pointer (some ⟨g8, 0, none⟩)), (10, .pointer (some ⟨g10, 0, none⟩)), (12, V12), (17, .pointer (some ⟨g17, 0, none⟩)), (18, .int .i64 E), (19, .pointer (some ⟨g19, 0, none⟩)), (20, .int .i64 E)] wr := by
  conv => arg 2; whnf
  have HQ := Lib.hid hQ
  have HT := Lib.hid h
  have HSS := Lib.hid h.s1.sum
  have HTS := Lib.hid h.t1.sum
  have HD := Lib.hid hd
  have HG := Lib.hid hg
  have HN : Hid (T.data.length ≤ 1000000 ∧ T.got.length ≤ 1000000) := ⟨by rw [hd]; omega, by rw [hg]; omega⟩
  clear hQ h hd hg
  refine kw_seq ?_
  refine kw_seq ?_
  refine kw_region_f (Hold [(g17, .cells (sesV T D' G').toArray 32 (0, 0)), (g19, .cells (sesV T E' H').toArray 36 (0, 0)), (g8, .cells (sesV s D G).toArray 32 (0, 0)), (g10, .cells (sesV s D2 G2).toArray 36 (0, 0))]) [true, true, true, true, true, false, true, false, true, true, true, true, true, false, true, true, false, true, true, true, true, false, true, false, true, true] (by kernel_rfl) (by kernel_rfl) (.cons (HT.out.lay.drew.at_ 1 rfl) (.cons (HT.out.lay.drew.at_ 0 rfl) (.cons (HT.out.lay.drew.at_ 5 rfl) (.cons (HT.out.lay.drew.at_ 4 rfl) (.nil _))))) ?_
  replace HT := Lib.hid (HT.out.next ((Below.refl _ wr).drew))
  generalize wr.drew = w0 at HT ⊢
  have e0 : (E != E) = false := by simp
  repeat (first | refine kf_nil ?_ | refine kf_ung rfl rfl ?_ | refine kf_skipg rfl rfl rfl rfl ?_ | refine kf_load_row 0 rfl Try.underlying32 rfl (by rw [sesInfo, length_sesV _ _ _ HTS.out]) rfl rfl rfl rfl rfl ?_ | refine kf_load_row 1 rfl Try.underlying36 rfl (by rw [rsesInfo, length_sesV _ _ _ HTS.out]) rfl rfl rfl rfl rfl ?_ | refine kf_load_row 2 rfl Try.underlying32 rfl (by rw [sesInfo, length_sesV _ _ _ HSS.out]) rfl rfl rfl rfl rfl ?_ | refine kf_load_row 3 rfl Try.underlying36 rfl (by rw [rsesInfo, length_sesV _ _ _ HSS.out]) rfl rfl rfl rfl rfl ?_ | (first | refine kf_move rfl rfl (.inl rfl) rfl rfl ?_ | refine kf_move rfl rfl (.inr rfl) rfl rfl ?_ | refine kf_const rfl rfl (.inl rfl) rfl ?_ | refine kf_const rfl rfl (.inr rfl) rfl ?_) | (refine kf_val rfl rfl rfl ?_; apply Exists.intro; refine And.intro (fun W hW N hN => ?_) ?_; · (go_simp; (try go_bits); exact hN)))
  refine kf_ch ?_
  refine kl_call rfl rfl rfl Try.func13 rfl (by kernel_rfl) rfl ?_
  refine Calls.mono (toRef_any T D' G' w0 HT.out.t1) ?_
  rintro e w1 ⟨rfl, hb⟩
  have HT := Lib.hid (HT.out.next hb)
  clear hb
  refine ⟨_, rfl, ?_⟩
  refine kl_nil ?_
  refine kq_f (.cons (HT.out.lay.at_ 1 rfl) (.cons (HT.out.lay.at_ 0 rfl) (.cons (HT.out.lay.at_ 5 rfl) (.cons (HT.out.lay.at_ 4 rfl) (.nil _))))) ?_
  repeat (first | refine kf_nil ?_ | refine kf_ung rfl rfl ?_ | refine kf_skipg rfl rfl rfl rfl ?_ | refine kf_load_row 0 rfl Try.underlying32 rfl (by rw [sesInfo, length_sesV _ _ _ HTS.out]) rfl rfl rfl rfl rfl ?_ | refine kf_load_row 1 rfl Try.underlying36 rfl (by rw [rsesInfo, length_sesV _ _ _ HTS.out]) rfl rfl rfl rfl rfl ?_ | refine kf_load_row 2 rfl Try.underlying32 rfl (by rw [sesInfo, length_sesV _ _ _ HSS.out]) rfl rfl rfl rfl rfl ?_ | refine kf_load_row 3 rfl Try.underlying36 rfl (by rw [rsesInfo, length_sesV _ _ _ HSS.out]) rfl rfl rfl rfl rfl ?_ | (first | refine kf_move rfl rfl (.inl rfl) rfl rfl ?_ | refine kf_move rfl rfl (.inr rfl) rfl rfl ?_ | refine kf_const rfl rfl (.inl rfl) rfl ?_ | refine kf_const rfl rfl (.inr rfl) rfl ?_) | (refine kf_val rfl rfl rfl ?_; apply Exists.intro; refine And.intro (fun W hW N hN => ?_) ?_; · (go_simp; (try go_bits); exact hN)))
  refine kf_ch ?_
  refine kl_call rfl rfl rfl Try.func12 rfl (by kernel_rfl) rfl ?_
  refine Calls.mono (sameR_any T T D' G' E' H' w1 HT.out.t1 HT.out.t2 HN.out.1 HN.out.2) ?_
  rintro e w2 ⟨rfl, hb⟩
  have HT := Lib.hid (HT.out.next hb)
  clear hb
  have e1 : decide (SameS T T) = true := decide_eq_true ⟨rfl, rfl, rfl, rfl, rfl⟩
  rw [e1]
  clear e1
  refine ⟨_, rfl, ?_⟩
  refine kl_nil ?_
  refine kq_f (.cons (HT.out.lay.at_ 1 rfl) (.cons (HT.out.lay.at_ 0 rfl) (.cons (HT.out.lay.at_ 5 rfl) (.cons (HT.out.lay.at_ 4 rfl) (.nil _))))) ?_
  repeat (first | refine kf_nil ?_ | refine kf_ung rfl rfl ?_ | refine kf_skipg rfl rfl rfl rfl ?_ | refine kf_load_row 0 rfl Try.underlying32 rfl (by rw [sesInfo, length_sesV _ _ _ HTS.out]) rfl rfl rfl rfl rfl ?_ | refine kf_load_row 1 rfl Try.underlying36 rfl (by rw [rsesInfo, length_sesV _ _ _ HTS.out]) rfl rfl rfl rfl rfl ?_ | refine kf_load_row 2 rfl Try.underlying32 rfl (by rw [sesInfo, length_sesV _ _ _ HSS.out]) rfl rfl rfl rfl rfl ?_ | refine kf_load_row 3 rfl Try.underlying36 rfl (by rw [rsesInfo, length_sesV _ _ _ HSS.out]) rfl rfl rfl rfl rfl ?_ | (first | refine kf_move rfl rfl (.inl rfl) rfl rfl ?_ | refine kf_move rfl rfl (.inr rfl) rfl rfl ?_ | refine kf_const rfl rfl (.inl rfl) rfl ?_ | refine kf_const rfl rfl (.inr rfl) rfl ?_) | (refine kf_val rfl rfl rfl ?_; apply Exists.intro; refine And.intro (fun W hW N hN => ?_) ?_; · (go_simp; (try go_bits); exact hN)))
  refine kf_ch ?_
  refine kl_call rfl rfl rfl Try.func18 rfl (by kernel_rfl) rfl ?_
  refine Calls.mono (same_any T s D' G' D G w2 HT.out.t1 HT.out.s1 HN.out.1 HN.out.2) ?_
  rintro e w3 ⟨rfl, hb⟩
  have HT := Lib.hid (HT.out.next hb)
  clear hb
  obtain ⟨B, hB⟩ : ∃ B, decide (SameS T s) = B := ⟨_, rfl⟩
  rw [hB]
  refine ⟨_, rfl, ?_⟩
  refine kl_nil ?_
  refine kq_f (.cons (HT.out.lay.at_ 1 rfl) (.cons (HT.out.lay.at_ 0 rfl) (.cons (HT.out.lay.at_ 5 rfl) (.cons (HT.out.lay.at_ 4 rfl) (.nil _))))) ?_
  repeat (first | refine kf_nil ?_ | refine kf_ung rfl rfl ?_ | refine kf_skipg rfl rfl rfl rfl ?_ | refine kf_load_row 0 rfl Try.underlying32 rfl (by rw [sesInfo, length_sesV _ _ _ HTS.out]) rfl rfl rfl rfl rfl ?_ | refine kf_load_row 1 rfl Try.underlying36 rfl (by rw [rsesInfo, length_sesV _ _ _ HTS.out]) rfl rfl rfl rfl rfl ?_ | refine kf_load_row 2 rfl Try.underlying32 rfl (by rw [sesInfo, length_sesV _ _ _ HSS.out]) rfl rfl rfl rfl rfl ?_ | refine kf_load_row 3 rfl Try.underlying36 rfl (by rw [rsesInfo, length_sesV _ _ _ HSS.out]) rfl rfl rfl rfl rfl ?_ | (first | refine kf_move rfl rfl (.inl rfl) rfl rfl ?_ | refine kf_move rfl rfl (.inr rfl) rfl rfl ?_ | refine kf_const rfl rfl (.inl rfl) rfl ?_ | refine kf_const rfl rfl (.inr rfl) rfl ?_) | (refine kf_val rfl rfl rfl ?_; apply Exists.intro; refine And.intro (fun W hW N hN => ?_) ?_; · (go_simp; (try go_bits); exact hN)))
  refine kf_ch ?_
  refine kl_call rfl rfl rfl Try.func12 rfl (by kernel_rfl) rfl ?_
  refine Calls.mono (sameR_any T s E' H' D2 G2 w3 HT.out.t2 HT.out.s2 HN.out.1 HN.out.2) ?_
  rintro e w4 ⟨rfl, hb⟩
  have HT := Lib.hid (HT.out.next hb)
  clear hb
  rw [hB]
  have e2 : (B != B) = false := by simp
  have e3 : (B == B) = true := by simp
  clear hB
  refine ⟨_, rfl, ?_⟩
  refine kl_nil ?_
  refine kq_f (.cons (HT.out.lay.at_ 1 rfl) (.cons (HT.out.lay.at_ 0 rfl) (.cons (HT.out.lay.at_ 5 rfl) (.cons (HT.out.lay.at_ 4 rfl) (.nil _))))) ?_
  repeat (first | refine kf_nil ?_ | refine kf_ung rfl rfl ?_ | refine kf_skipg rfl rfl rfl rfl ?_ | refine kf_load_row 0 rfl Try.underlying32 rfl (by rw [sesInfo, length_sesV _ _ _ HTS.out]) rfl rfl rfl rfl rfl ?_ | refine kf_load_row 1 rfl Try.underlying36 rfl (by rw [rsesInfo, length_sesV _ _ _ HTS.out]) rfl rfl rfl rfl rfl ?_ | refine kf_load_row 2 rfl Try.underlying32 rfl (by rw [sesInfo, length_sesV _ _ _ HSS.out]) rfl rfl rfl rfl rfl ?_ | refine kf_load_row 3 rfl Try.underlying36 rfl (by rw [rsesInfo, length_sesV _ _ _ HSS.out]) rfl rfl rfl rfl rfl ?_ | (first | refine kf_move rfl rfl (.inl rfl) rfl rfl ?_ | refine kf_move rfl rfl (.inr rfl) rfl rfl ?_ | refine kf_const rfl rfl (.inl rfl) rfl ?_ | refine kf_const rfl rfl (.inr rfl) rfl ?_) | (refine kf_val rfl rfl rfl ?_; apply Exists.intro; refine And.intro (fun W hW N hN => ?_) ?_; · (go_simp; (try go_bits); exact hN)))
  refine kf_ch ?_
  refine kl_call rfl rfl rfl Try.func19 rfl (by kernel_rfl) rfl ?_
  refine Calls.mono (left_any T D' G' w4 HT.out.t1 (by have := HN.out.2; omega)) ?_
  rintro e w5 ⟨rfl, hb⟩
  have HT := Lib.hid (HT.out.next hb)
  clear hb
  obtain ⟨K, hK⟩ : ∃ K : Nat, cnt false T.got = K := ⟨_, rfl⟩
  rw [hK]
  refine ⟨_, rfl, ?_⟩
  refine kl_nil ?_
  refine kq_f (.cons (HT.out.lay.at_ 1 rfl) (.cons (HT.out.lay.at_ 0 rfl) (.cons (HT.out.lay.at_ 5 rfl) (.cons (HT.out.lay.at_ 4 rfl) (.nil _))))) ?_
  repeat (first | refine kf_nil ?_ | refine kf_ung rfl rfl ?_ | refine kf_skipg rfl rfl rfl rfl ?_ | refine kf_load_row 0 rfl Try.underlying32 rfl (by rw [sesInfo, length_sesV _ _ _ HTS.out]) rfl rfl rfl rfl rfl ?_ | refine kf_load_row 1 rfl Try.underlying36 rfl (by rw [rsesInfo, length_sesV _ _ _ HTS.out]) rfl rfl rfl rfl rfl ?_ | refine kf_load_row 2 rfl Try.underlying32 rfl (by rw [sesInfo, length_sesV _ _ _ HSS.out]) rfl rfl rfl rfl rfl ?_ | refine kf_load_row 3 rfl Try.underlying36 rfl (by rw [rsesInfo, length_sesV _ _ _ HSS.out]) rfl rfl rfl rfl rfl ?_ | (first | refine kf_move rfl rfl (.inl rfl) rfl rfl ?_ | refine kf_move rfl rfl (.inr rfl) rfl rfl ?_ | refine kf_const rfl rfl (.inl rfl) rfl ?_ | refine kf_const rfl rfl (.inr rfl) rfl ?_) | (refine kf_val rfl rfl rfl ?_; apply Exists.intro; refine And.intro (fun W hW N hN => ?_) ?_; · (go_simp; (try go_bits); exact hN)))
  refine kf_ch ?_
  refine kl_call rfl rfl rfl Try.func20 rfl (by kernel_rfl) rfl ?_
  refine Calls.mono (leftR_any T E' H' w5 HT.out.t2 HN.out.2) ?_
  rintro e w6 ⟨rfl, hb⟩
  have HT := Lib.hid (HT.out.next hb)
  clear hb
  rw [hK]
  have e4 : ((K : Int) != (K : Int)) = false := by simp
  clear hK
  refine ⟨_, rfl, ?_⟩
  refine kl_nil ?_
  refine kq_f (.cons (HT.out.lay.at_ 1 rfl) (.cons (HT.out.lay.at_ 0 rfl) (.cons (HT.out.lay.at_ 5 rfl) (.cons (HT.out.lay.at_ 4 rfl) (.nil _))))) ?_
  repeat (first | refine kf_nil ?_ | refine kf_ung rfl rfl ?_ | refine kf_skipg rfl rfl rfl rfl ?_ | (first | refine kf_move rfl rfl (.inl rfl) rfl rfl ?_ | refine kf_move rfl rfl (.inr rfl) rfl rfl ?_ | refine kf_const rfl rfl (.inl rfl) rfl ?_ | refine kf_const rfl rfl (.inr rfl) rfl ?_) | (refine kf_val rfl rfl rfl ?_; apply Exists.intro; refine And.intro (fun W hW N hN => ?_) ?_; · (go_simp; (try go_bits); exact hN)))
  refine kq_then ?_
  clear e0 e2 e3 e4
  refine kw_iff rfl ?_
  refine kw_skip ?_
  refine kq_then ?_
  refine KW.less [0, 1, 7, 8, 10, 12, 17, 19] ?_
  simp only [nrm, lk, Nat.reduceBEq, cond_true, cond_false]
  repeat (first | refine kw_seq ?_ | refine kw_block ?_ | refine kw_skip ?_ | refine kw_region ?_ | refine kl_nil ?_ | refine kq_then ?_ | refine kq_block ?_ | refine kw_exit ?_ | refine kq_then_exit ?_ | refine kq_block_here rfl ?_ | refine kq_block_far rfl ?_ | refine kq_again_exit ?_ | refine kw_ret ?_ | refine kq_then_ret ?_ | refine kq_block_ret ?_ | refine kq_again_ret ?_ | refine kw_ift rfl ?_ | refine kw_iff rfl ?_ | refine kl_ung rfl rfl ?_ | refine kl_skipg rfl rfl rfl rfl ?_ | refine kl_skipg0 rfl rfl rfl ?_ | refine kl_getL HT.out.lay 1 rfl Try.underlying32 rfl (infoS T _ _ HTS.out) rfl rfl rfl rfl rfl ?_ | (first | refine kl_move rfl rfl (.inl rfl) rfl rfl ?_ | refine kl_move rfl rfl (.inr rfl) rfl rfl ?_ | refine kl_const rfl rfl (.inl rfl) rfl ?_ | refine kl_const rfl rfl (.inr rfl) rfl ?_) | ((first | refine kl_step rfl rfl rfl fun K hK => ?_ | refine kl_step0 rfl rfl rfl fun K hK => ?_); go_simp; (try go_bits); (first | refine hK _ _ ?_ | refine hK _ ?_); clear hK K))
  refine kl_call rfl rfl rfl Try.func21 rfl (by kernel_rfl) rfl ?_
  refine Calls.mono (whole_any T D' G' w6 HT.out.t1 HN.out.2 HN.out.1) ?_
  rintro e w7 ⟨V21, rfl, hB1, hb⟩
  have HT := Lib.hid (HT.out.next hb)
  clear hb
  refine ⟨_, rfl, ?_⟩
  repeat (first | refine kw_seq ?_ | refine kw_block ?_ | refine kw_skip ?_ | refine kw_region ?_ | refine kl_nil ?_ | refine kq_then ?_ | refine kq_block ?_ | refine kw_exit ?_ | refine kq_then_exit ?_ | refine kq_block_here rfl ?_ | refine kq_block_far rfl ?_ | refine kq_again_exit ?_ | refine kw_ret ?_ | refine kq_then_ret ?_ | refine kq_block_ret ?_ | refine kq_again_ret ?_ | refine kw_ift rfl ?_ | refine kw_iff rfl ?_ | refine kl_ung rfl rfl ?_ | refine kl_skipg rfl rfl rfl rfl ?_ | refine kl_skipg0 rfl rfl rfl ?_ | refine kl_getL HT.out.lay 0 rfl Try.underlying36 rfl (rinfoS T _ _ HTS.out) rfl rfl rfl rfl rfl ?_ | (first | refine kl_move rfl rfl (.inl rfl) rfl rfl ?_ | refine kl_move rfl rfl (.inr rfl) rfl rfl ?_ | refine kl_const rfl rfl (.inl rfl) rfl ?_ | refine kl_const rfl rfl (.inr rfl) rfl ?_) | ((first | refine kl_step rfl rfl rfl fun K hK => ?_ | refine kl_step0 rfl rfl rfl fun K hK => ?_); go_simp; (try go_bits); (first | refine hK _ _ ?_ | refine hK _ ?_); clear hK K))
  refine kl_call rfl rfl rfl Try.func22 rfl (by kernel_rfl) rfl ?_
  refine Calls.mono (wholeR_any T E' H' w7 HT.out.t2 HN.out.2 HN.out.1) ?_
  rintro e w8 ⟨V23, rfl, hB2, hb⟩
  have HT := Lib.hid (HT.out.next hb)
  replace hB1 := hB1.keep (.of_below hb)
  clear hb
  refine ⟨_, rfl, ?_⟩
  obtain ⟨WE, hWE⟩ : ∃ z, wholeE T = z := ⟨_, rfl⟩
  obtain ⟨WB, hWB⟩ : ∃ z, wholeB T = z := ⟨_, rfl⟩
  rw [hWB] at hB1 hB2
  rw [hWE]
  clear hWE hWB
  obtain ⟨A1, n1, c1, rfl, hB1, _, _⟩ := hB1
  obtain ⟨A2, n2, c2, rfl, hB2, _, _⟩ := hB2
  have hcv1 := convB (c := c1) hB1
  have hcv2 := convB (c := c2) hB2
  have e5 : (WB == WB) = true := by simp
  have e6 : (WE != WE) = false := by simp
  repeat (first | refine kw_seq ?_ | refine kw_block ?_ | refine kw_skip ?_ | refine kw_region ?_ | refine kl_nil ?_ | refine kq_then ?_ | refine kq_block ?_ | refine kw_exit ?_ | refine kq_then_exit ?_ | refine kq_block_here rfl ?_ | refine kq_block_far rfl ?_ | refine kq_again_exit ?_ | refine kw_ret ?_ | refine kq_then_ret ?_ | refine kq_block_ret ?_ | refine kq_again_ret ?_ | refine kw_ift rfl ?_ | refine kw_iff rfl ?_ | refine kl_ung rfl rfl ?_ | refine kl_skipg rfl rfl rfl rfl ?_ | refine kl_skipg0 rfl rfl rfl ?_ | (first | refine kl_move rfl rfl (.inl rfl) rfl rfl ?_ | refine kl_move rfl rfl (.inr rfl) rfl rfl ?_ | refine kl_const rfl rfl (.inl rfl) rfl ?_ | refine kl_const rfl rfl (.inr rfl) rfl ?_) | ((first | refine kl_step rfl rfl rfl fun K hK => ?_ | refine kl_step0 rfl rfl rfl fun K hK => ?_); go_simp; (try go_bits); (first | refine hK _ _ ?_ | refine hK _ ?_); clear hK K))
  clear e5 e6 hcv1 hcv2 hB1 hB2
  refine KW.less [0, 1, 7, 8, 10, 12, 17, 19] ?_
  simp only [nrm, lk, Nat.reduceBEq, cond_true, cond_false]
  refine kw_region_f (Hold [(g17, .cells (sesV T D' G').toArray 32 (0, 0)), (g19, .cells (sesV T E' H').toArray 36 (0, 0))]) [true, true, false, false] (by kernel_rfl) (by kernel_rfl) (.cons (HT.out.lay.drew.at_ 1 rfl) (.cons (HT.out.lay.drew.at_ 0 rfl) (.nil _))) ?_
  replace HT := Lib.hid (HT.out.next ((Below.refl _ w8).drew))
  generalize w8.drew = w9 at HT ⊢
  have hL := HT.out.lay
  repeat (first | refine kf_nil ?_ | refine kf_ung rfl rfl ?_ | refine kf_skipg rfl rfl rfl rfl ?_ | refine kf_load_row 0 rfl Try.underlying32 rfl (by rw [sesInfo, length_sesV _ _ _ HTS.out]) rfl rfl rfl rfl rfl ?_ | refine kf_load_row 1 rfl Try.underlying36 rfl (by rw [rsesInfo, length_sesV _ _ _ HTS.out]) rfl rfl rfl rfl rfl ?_ | (first | refine kf_move rfl rfl (.inl rfl) rfl rfl ?_ | refine kf_move rfl rfl (.inr rfl) rfl rfl ?_ | refine kf_const rfl rfl (.inl rfl) rfl ?_ | refine kf_const rfl rfl (.inr rfl) rfl ?_) | (refine kf_val rfl rfl rfl ?_; apply Exists.intro; refine And.intro (fun W hW N hN => ?_) ?_; · (go_simp; (try go_bits); exact hN)))
  refine kf_ch ?_
  refine kl_putL (cells := (sesV T D' G').toArray) hL 5 rfl (infoS T _ _ HTS.out) (sizeS s T _ _ _ _ HSS.out HTS.out) (sesV_one T _ _ HT.out.t1.data.one HT.out.t1.got.one) rfl rfl rfl rfl rfl (fun hL2 => ?_)
  refine kl_nil ?_
  refine kq_f (.cons (hL2.at_ 1 rfl) (.cons (hL2.at_ 0 rfl) (.nil _))) ?_
  repeat (first | refine kf_nil ?_ | refine kf_ung rfl rfl ?_ | refine kf_skipg rfl rfl rfl rfl ?_ | (first | refine kf_move rfl rfl (.inl rfl) rfl rfl ?_ | refine kf_move rfl rfl (.inr rfl) rfl rfl ?_ | refine kf_const rfl rfl (.inl rfl) rfl ?_ | refine kf_const rfl rfl (.inr rfl) rfl ?_) | (refine kf_val rfl rfl rfl ?_; apply Exists.intro; refine And.intro (fun W hW N hN => ?_) ?_; · (go_simp; (try go_bits); exact hN)))
  refine kf_ch ?_
  refine kl_putL (cells := (sesV T E' H').toArray) hL2 4 rfl (rinfoS T _ _ HTS.out) (sizeS s T _ _ _ _ HSS.out HTS.out) (sesV_one T _ _ HT.out.t2.data.one HT.out.t2.got.one) rfl rfl rfl rfl rfl (fun hL3 => ?_)
  refine kl_nil ?_
  refine kq_f (.cons (hL3.at_ 1 rfl) (.cons (hL3.at_ 0 rfl) (.nil _))) ?_
  repeat (first | refine kf_nil ?_ | refine kf_ung rfl rfl ?_ | refine kf_skipg rfl rfl rfl rfl ?_ | (first | refine kf_move rfl rfl (.inl rfl) rfl rfl ?_ | refine kf_move rfl rfl (.inr rfl) rfl rfl ?_ | refine kf_const rfl rfl (.inl rfl) rfl ?_ | refine kf_const rfl rfl (.inr rfl) rfl ?_) | (refine kf_val rfl rfl rfl ?_; apply Exists.intro; refine And.intro (fun W hW N hN => ?_) ?_; · (go_simp; (try go_bits); exact hN)))
  refine KQ.less [0, 1, 7, 8, 10, 12] ?_
  simp only [nrm, lk, Nat.reduceBEq, cond_true, cond_false]
  have h8 := HT.out
  exact HQ.out _ ⟨hL3.tail.tail.tail.tail, (h8.t1.row (fun b o n c e => (h8.nD b o n c e).1) (fun b o n c e => (h8.nG b o n c e).1) _).row (fun b o n c e => (h8.nD b o n c e).2) (fun b o n c e => (h8.nG b o n c e).2) _,
    (h8.t2.row (fun b o n c e => (h8.nE b o n c e).1) (fun b o n c e => (h8.nH b o n c e).1) _).row (fun b o n c e => (h8.nE b o n c e).2) (fun b o n c e => (h8.nH b o n c e).2) _,
    (h8.frm.row (fun b o n c e => (h8.nF b o n c e).1) _).row (fun b o n c e => (h8.nF b o n c e).2) _, h8.nF⟩
end Go.Proofs.Ytkgenkkcgegcbaa
