/- Append onto an empty row of the call's own, in a region that draws; variables beside a row of one's own. The document's Chunk (chapter 17): its first loop. -/
import Derived.Test.YtkgenkkcgegcbaaKnOps
import Derived.Test.YtkgenkkcgegcbaaLay
import Derived.Test.YtkgenkkcgegcbaaRs
import Derived.Test.YtkgenkkcgegcbaaSesChunkP
import Derived.Test.YtkgenkkcgegcbaaSesChunk1
import Derived.Test.YtkgenkkcgegcbaaKnF
import Derived.Test.YtkgenkkcgegcbaaKnR
namespace Go.Proofs.Ytkgenkkcgegcbaa
open Go.RowKit
theorem LayV.far {w w' : World} {B b : Nat} : ∀ {V : Vars}, LayV w B V → (∀ p ∈ V, p.1 ≠ b) → (∀ (g : Nat) (x : Obj), g ≠ b → w.heap[g]? = some x → w'.heap[g]? = some x) → LayV w' B V
  | [], _, _, _ => trivial
  | (g, cs, t) :: V, h, hne, k => ⟨h.1, k _ _ (hne (g, cs, t) (by simp)) h.2.1, h.2.2.1, LayV.far h.2.2.2 (fun p hp => hne p (by simp [hp])) k⟩
theorem Lay.far {w0 w : World} {V : Vars} (h : Lay w0 w V) (a : Addr) (u : Value) (hne : ∀ p ∈ V, p.1 ≠ a.block) (hge : w0.heap.size ≤ a.block) : Lay w0 (w.setCell a u) V :=
  ⟨h.below.setCell hge _, h.vars.far hne fun g x hg hx => by rw [Below.heap_setCell _ _ _ _ hg]; exact hx⟩
theorem Lay.drew {w0 w : World} {V : Vars} (h : Lay w0 w V) : Lay w0 w.drew V := h.next ((Below.refl _ _).drew)
/-- append onto an empty row: a new one -/
theorem empty_app {P : Program} {W : World} (t ty e : TypeId) (z : Value) (bytes : Nat) (ht : P.underlying t = some (.slice e)) (hinfo : (P.info? e).map (fun i => (i.zero, i.size, i.bytes)) = some (some z, 1, bytes)) (hzs : z.cells.size = 1)
    (B b0 : Nat) (hown : W.ownsRow B e 1 (.slice (some ⟨b0, 0, none⟩) 0 0) 0 []) (A : Option Addr) (n c : Nat) (news : List Value) (hr : Vs W A n news) (h1 : ∀ u ∈ news, u.oneCell' = true) (h0 : 0 < n)
    (hbytes : n * bytes ≤ 140737488355328) (h63 : n ≤ 9223372036854775807) (hB : B ≤ W.heap.size) :
    ∃ g c' W', (Builtin.append_ #[t, t] ty #[.slice (some ⟨b0, 0, none⟩) 0 0, .slice A n c]).run P W = .ok (.slice (some ⟨g, 0, none⟩) n c') W' ∧ W'.ownsRow B e 1 (.slice (some ⟨g, 0, none⟩) n c') n news ∧ W.heap.size ≤ g ∧ n ≤ c' ∧ c' ≤ 9223372036854775807 ∧ Below W.heap.size W W' := by
  obtain ⟨i, hi, hz, hs, hby⟩ := info_parts hinfo
  obtain ⟨v', w', hrun, ho, _, _⟩ := run_append_V W B t ty e i z bytes ht hi hz hs hby hzs _ 0 [] hown A n c news hr h1 (by rw [Nat.zero_add]; exact hbytes) (by simpa [maxLen] using h63) hB
  obtain ⟨b, o, rfl, hc⟩ := hr.2 h0
  have hr2 := run_append_grow (P := P) (w := W) t ty e i z ht hi hz ⟨b0, 0, none⟩ 0 0 [] (by simp) (by intro j v hj; simp at hj) ⟨b, o, none⟩ n c news (by rw [hr.1, hs, Nat.mul_one])
    (fun j v hj => by rw [Addr.add_lit]; exact hc j v hj) (by omega) (by omega) (by
      rw [Nat.zero_add, nextslicecap_zero h0, hby]; omega)
  rw [hrun] at hr2
  injection hr2 with e1 e2
  rw [Nat.zero_add] at e1
  rw [Nat.zero_add, List.nil_append] at ho
  subst e1
  subst e2
  obtain ⟨g, c', hv, hBg, hlt, hcn, hcm⟩ := own_form ho h0
  injection hv with hv1 _ hv3
  injection hv1 with hv1
  injection hv1 with hv1
  subst hv1
  subst hv3
  exact ⟨_, _, _, hrun, ho, Nat.le_refl _, hcn, hcm, ((Below.refl _ W).drew).alloc (Nat.le_refl _) _⟩
section
variable {P : Program} {ops : List Oper} {L : Slots} {w : World} {Ss : List (World → Value → Prop)} {src : List (Nat × Option Nat)} {i : Nat} {o : Oper}
theorem vk_append_run {s x : Operand} {t u : TypeId} (hg : o.guard = none) (ho : o.op = .call { callee := .builtin .append, args := #[s, x], argTypes := #[t, u] })
    (h : ∀ (A : Act) (W : World), Below w.heap.size w W → SrcK L Ss A W src → ∃ v y r W', look A s = v ∧ look A x = y ∧ (Builtin.append_ #[t, u] o.type #[v, y]).run P W = .ok r W' ∧ Below W.heap.size W W' ∧ SL Ss i W' r) : VK (ops := ops) P L Ss w src i o :=
  vk_run hg fun A W hR hs => by
    obtain ⟨v, y, r, W', h1, h2, h3, h4, h5⟩ := h A W hR hs
    refine ⟨r, W', ?_, h4, h5⟩
    unfold execOp
    simp only [ho, resolve, invoke, builtin, Sem.run_bind, Sem.run_pure, Result.andThen_ok, List.map_toArray, List.map_cons, List.map_nil, h1, h2, h3]
end
end Go.Proofs.Ytkgenkkcgegcbaa
namespace Go.Proofs.Ytkgenkkcgegcbaa
open Go.RowKit
attribute [local go_sem] ev_tmp ev_const ev_func ev_global lk_hit lk_miss uponK_value uponK_skip look_tmp look_const look_global look_func valP_value
/-- what stands in its loops: the session at g2, the frame at g3, the result at g4 -/
structure CkR (w : World) (g2 g3 g4 : Nat) (s : Ses) (f : Frm) (D G DF : Value) (wr : World) : Prop where
  lay : Lay w wr [(g4, zSes.toArray, 36), (g3, (frmV f DF).toArray, 39), (g2, (sesV s D G).toArray, 36)]
  ses : SesM wr s D G
  frm : FrmM wr f DF
  nd : ∀ b o n c, D = .slice (some ⟨b, o, none⟩) n c → b ≠ g4
  ng : ∀ b o n c, G = .slice (some ⟨b, o, none⟩) n c → b ≠ g4
theorem CkR.next {w wr wr' : World} {g2 g3 g4 : Nat} {s : Ses} {f : Frm} {D G DF : Value} (h : CkR w g2 g3 g4 s f D G DF wr) (hb : Below wr.heap.size wr wr') : CkR w g2 g3 g4 s f D G DF wr' :=
  ⟨h.lay.next hb, h.ses.keep (.of_below hb), h.frm.keep (.of_below hb), h.nd, h.ng⟩
set_option maxRecDepth 100000 in
set_option maxHeartbeats 1000000 in
theorem chkR_loop1 {Q : Exit → Act → World → Prop} {w wr : World} {n m a g2 g3 g4 : Nat} {s : Ses} {f : Frm} {D G DF : Value}
    (hn : n ≤ 1000000) (ham : a + m ≤ n) (hfa : f.at_ = a) (HD : Hid (s.data.length = n)) (HG : Hid (s.got.length = n)) (HM : Hid (f.data.length = m)) (h : CkR w g2 g3 g4 s f D G DF wr)
    (hR : clash s f = true → ∀ wr', Lay w wr' [(g4, (sesV s D G).toArray, 36), (g3, (frmV f DF).toArray, 39), (g2, (sesV s D G).toArray, 36)] → SesM wr' s D G → KQ Q .ret 111 [(4, .pointer (some ⟨g4, 0, none⟩)), (5, .int .i64 10)] wr')
    (hQ : clash s f = false → ∀ wr', CkR w g2 g3 g4 s f D G DF wr' → KQ Q .normal 111 [(2, .pointer (some ⟨g2, 0, none⟩)), (3, .pointer (some ⟨g3, 0, none⟩)), (4, .pointer (some ⟨g4, 0, none⟩))] wr') :
    KW Try.prog (blockOf Try.f17 0) Q 111 [(2, .pointer (some ⟨g2, 0, none⟩)), (3, .pointer (some ⟨g3, 0, none⟩)), (4, .pointer (some ⟨g4, 0, none⟩)), (6, .int .i64 0)] wr := by
  conv => arg 2; whnf
  have HQ := Lib.hid hQ
  have HR := Lib.hid hR
  have H := Lib.hid h
  clear hQ hR h
  refine kw_block ?_
  refine kw_loop (fun mm L W => ∃ k, k ≤ m ∧ mm = m - k ∧ CkR w g2 g3 g4 s f D G DF W ∧ Hid (noClash s f a k) ∧ L = [(2, .pointer (some ⟨g2, 0, none⟩)), (3, .pointer (some ⟨g3, 0, none⟩)), (4, .pointer (some ⟨g4, 0, none⟩)), (6, .int .i64 (k : Int))]) ⟨0, by omega, rfl, H.out, (show noClash s f a 0 from fun i hi => by omega), rfl⟩ ?_
  clear H
  rintro mm L W ⟨k, hk, rfl, hC, hno, rfl⟩
  obtain ⟨hL, hM, hF, hnd, hng⟩ := hC
  have HSL := Lib.hid hM.sum
  have HFL := Lib.hid hF.sum
  have H := Lib.hid (⟨hL, hM, hF, hnd, hng⟩ : CkR w g2 g3 g4 s f D G DF W)
  obtain ⟨AD, nD, cD, eD, hBD, hD1, hD2⟩ := hM.data
  obtain ⟨AG, nG, cG, eG, hBG, hG1, hG2⟩ := hM.got
  obtain ⟨AF, nF, cF, eF, hBF, hF1, hF2⟩ := hF.data
  have enD : nD = n := by rw [← hBD.len]; exact HD.out
  have enG : nD = nG := by have := hBG.1; rw [length_bls, HG.out] at this; rw [enD]; exact this
  have enF : nF = m := by rw [← hBF.len]; exact HM.out
  subst eD
  subst eG
  subst eF
  subst enG
  subst enD
  subst enF
  have q34 := fun W' (h : Below W.heap.size W W') => Keeps.of_below h _ _ (hL.get (j := 34) 2 rfl (ses_34 s (.slice AD nD cD) (.slice AG nD cG) HSL.out))
  have q35 := fun W' (h : Below W.heap.size W W') => Keeps.of_below h _ _ (hL.get (j := 35) 2 rfl (ses_35 s (.slice AD nD cD) (.slice AG nD cG) HSL.out))
  have p3 := fun W' (h : Below W.heap.size W W') => Keeps.of_below h _ _ (hL.get (j := 3) 1 rfl (frm_3 f (.slice AF nF cF)))
  have p36 := fun W' (h : Below W.heap.size W W') => Keeps.of_below h _ _ (hL.get (j := 36) 1 rfl (frm_36 f (.slice AF nF cF) HFL.out))
  rw [hfa] at p3
  have q0 := p36 W (Below.refl _ _)
  by_cases hlt : k < nF
  · have hk1 : (k : Int) < nF := by omega
    have hk0 : (0 : Int) ≤ k := by omega
    have t1 : decide ((k : Int) < (nF : Int)) = true := by rw [decide_eq_true_eq]; omega
    obtain ⟨ak, hak⟩ : ∃ ak, a + k = ak := ⟨_, rfl⟩
    have j3 : (a : Int) + (k : Int) = (ak : Int) := by omega
    have j4 : IntKind.i64.wrap ((a : Int) + (k : Int)) = (ak : Int) := by rw [j3, IntWalk.i64_in _ (by omega)]
    have j0 : (0 : Int) ≤ ak := by omega
    have j1 : (ak : Int) < nD := by omega
    have hakn : ak < nD := by omega
    have HAK := Lib.hid hak
    have hg1 : ak < s.got.length := by rw [HG.out]; exact hakn
    obtain ⟨x, hx⟩ : ∃ x, s.got[ak]? = some x := ⟨_, List.getElem?_eq_getElem hg1⟩
    obtain ⟨b, o, ub, eb, hcb, _, hub⟩ := Vs.next hBG hakn
    have e1 : ub = .bool x := by have := hub.out; simp only [bls, List.getElem?_map, hx, Option.map_some, Option.some.injEq] at this; exact this.symm
    obtain ⟨b2, o2, y, eb2, hcy, _, hgy⟩ := hBD.next hakn
    obtain ⟨b3, o3, z, eb3, hcz, _, hgz⟩ := hBF.next hlt
    subst eb; subst e1; subst eb2; subst eb3
    have c1 := fun W' (h : Below W.heap.size W W') => Keeps.of_below h _ _ hcb
    have c2 := fun W' (h : Below W.heap.size W W') => Keeps.of_below h _ _ hcy
    have c3 := fun W' (h : Below W.heap.size W W') => Keeps.of_below h _ _ hcz
    have HX := Lib.hid hx
    clear hcb hcy hcz hub hx hg1 hak hBD hBG hBF hL hM hF
    repeat (first | refine kw_seq ?_ | refine kw_region ?_ | refine kl_nil ?_ | refine kq_then ?_ | refine kw_ift rfl ?_ | refine kw_skip ?_ | (first | refine kl_move rfl rfl (.inl rfl) rfl rfl ?_ | refine kl_move rfl rfl (.inr rfl) rfl rfl ?_ | refine kl_const rfl rfl (.inl rfl) rfl ?_ | refine kl_const rfl rfl (.inr rfl) rfl ?_) | ((first | refine kl_step rfl rfl rfl fun K hK => ?_ | refine kl_step0 rfl rfl rfl fun K hK => ?_); go_simp; (try go_bits); (first | refine hK _ _ ?_ | refine hK _ ?_); clear hK K))
    refine kw_block ?_
    repeat (refine kw_seq ?_)
    cases x
    · refine kw_region_f (Below W.heap.size W) [true, true, true, true, true, true, true, true, true, true, true, true, true, true, true, true, true, true, true, true, true, true, true, true] (by kernel_rfl) (by kernel_rfl) ((Below.refl _ W).drew) ?_
      repeat (first | refine kf_nil ?_ | refine kf_ung rfl rfl ?_ | refine kf_skipg rfl rfl rfl rfl ?_ | (first | refine kf_move rfl rfl (.inl rfl) rfl rfl ?_ | refine kf_move rfl rfl (.inr rfl) rfl rfl ?_ | refine kf_const rfl rfl (.inl rfl) rfl ?_ | refine kf_const rfl rfl (.inr rfl) rfl ?_) | (refine kf_val rfl rfl rfl ?_; apply Exists.intro; refine And.intro (fun W hW N hN => ?_) ?_; · (go_simp; (try go_bits); exact hN)))
      refine kq_then ?_
      clear c1 c2 c3 q34 q35 p3 p36 q0
      have hn1 : Hid (noClash s f a (k + 1)) := by
        intro i hi
        rcases Nat.lt_or_ge i k with h | h
        · exact hno.out i h
        · obtain rfl : i = k := by omega
          rw [HAK.out, List.getD_eq_getElem?_getD, HX.out]
          intro h; exact absurd h.1 (by simp)
      obtain ⟨nk, hnk⟩ : ∃ nk, k + 1 = nk := ⟨_, rfl⟩
      have i3 : (k : Int) + 1 = (nk : Int) := by omega
      have i4 : IntKind.i64.wrap ((k : Int) + 1) = (nk : Int) := by rw [i3, IntWalk.i64_in _ (by omega)]
      rw [hnk] at hn1
      have HNK := Lib.hid hnk
      clear hnk
      repeat (first | refine kw_seq ?_ | refine kw_block ?_ | refine kw_region ?_ | refine kl_nil ?_ | refine kq_then ?_ | refine kq_block ?_ | refine kw_ift rfl ?_ | refine kw_iff rfl ?_ | refine kw_skip ?_ | (first | refine kl_move rfl rfl (.inl rfl) rfl rfl ?_ | refine kl_move rfl rfl (.inr rfl) rfl rfl ?_ | refine kl_const rfl rfl (.inl rfl) rfl ?_ | refine kl_const rfl rfl (.inr rfl) rfl ?_) | ((first | refine kl_step rfl rfl rfl fun K hK => ?_ | refine kl_step0 rfl rfl rfl fun K hK => ?_); go_simp; (try go_bits); (first | refine hK _ _ ?_ | refine hK _ ?_); clear hK K))
      have hnk := HNK.out
      refine kq_again (nF - nk) [2, 3, 4, 6] (by omega) ?_
      exact ⟨nk, by omega, rfl, H.out.next ((Below.refl _ W).drew), hn1, rfl⟩
    · by_cases hyz : y = z
      · have e1 : ((y.toNat : Int) != (z.toNat : Int)) = false := by rw [hyz]; simp
        have HYZ := Lib.hid hyz
        clear hyz
        refine kw_region_f (Below W.heap.size W) [true, true, true, true, true, true, true, true, true, true, true, true, true, true, true, true, true, true, true, true, true, true, true, true] (by kernel_rfl) (by kernel_rfl) ((Below.refl _ W).drew) ?_
        repeat (first | refine kf_nil ?_ | refine kf_ung rfl rfl ?_ | refine kf_skipg rfl rfl rfl rfl ?_ | (first | refine kf_move rfl rfl (.inl rfl) rfl rfl ?_ | refine kf_move rfl rfl (.inr rfl) rfl rfl ?_ | refine kf_const rfl rfl (.inl rfl) rfl ?_ | refine kf_const rfl rfl (.inr rfl) rfl ?_) | (refine kf_val rfl rfl rfl ?_; apply Exists.intro; refine And.intro (fun W hW N hN => ?_) ?_; · (go_simp; (try go_bits); exact hN)))
        refine kq_then ?_
        clear c1 c2 c3 q34 q35 p3 p36 q0
        have hn1 : Hid (noClash s f a (k + 1)) := by
          intro i hi
          rcases Nat.lt_or_ge i k with h | h
          · exact hno.out i h
          · obtain rfl : i = k := by omega
            rw [HAK.out, List.getD_eq_getElem?_getD, List.getD_eq_getElem?_getD, List.getD_eq_getElem?_getD, HX.out, hgy.out, hgz.out]
            intro h; exact h.2 HYZ.out
        obtain ⟨nk, hnk⟩ : ∃ nk, k + 1 = nk := ⟨_, rfl⟩
        have i3 : (k : Int) + 1 = (nk : Int) := by omega
        have i4 : IntKind.i64.wrap ((k : Int) + 1) = (nk : Int) := by rw [i3, IntWalk.i64_in _ (by omega)]
        rw [hnk] at hn1
        have HNK := Lib.hid hnk
        clear hnk
        repeat (first | refine kw_seq ?_ | refine kw_block ?_ | refine kw_region ?_ | refine kl_nil ?_ | refine kq_then ?_ | refine kq_block ?_ | refine kw_ift rfl ?_ | refine kw_iff rfl ?_ | refine kw_skip ?_ | (first | refine kl_move rfl rfl (.inl rfl) rfl rfl ?_ | refine kl_move rfl rfl (.inr rfl) rfl rfl ?_ | refine kl_const rfl rfl (.inl rfl) rfl ?_ | refine kl_const rfl rfl (.inr rfl) rfl ?_) | ((first | refine kl_step rfl rfl rfl fun K hK => ?_ | refine kl_step0 rfl rfl rfl fun K hK => ?_); go_simp; (try go_bits); (first | refine hK _ _ ?_ | refine hK _ ?_); clear hK K))
        have hnk := HNK.out
        refine kq_again (nF - nk) [2, 3, 4, 6] (by omega) ?_
        exact ⟨nk, by omega, rfl, H.out.next ((Below.refl _ W).drew), hn1, rfl⟩
      · have e1 : ((y.toNat : Int) != (z.toNat : Int)) = true := by
          rw [bne_iff_ne]
          intro e
          exact hyz (UInt8.toNat_inj.1 (by omega))
        have hcl : clash s f = true := clash_yes hfa (by rw [HM.out]; exact hlt) hgz.out (by rw [HAK.out]; exact HX.out) (by rw [HAK.out]; exact hgy.out) hyz
        have HCL := Lib.hid hcl
        clear hyz hcl
        refine kw_region_f (Below W.heap.size W) [true, true, true, true, true, true, true, true, true, true, true, true, true, true, true, true, true, true, true, true, true, true, true, true] (by kernel_rfl) (by kernel_rfl) ((Below.refl _ W).drew) ?_
        repeat (first | refine kf_nil ?_ | refine kf_ung rfl rfl ?_ | refine kf_skipg rfl rfl rfl rfl ?_ | (first | refine kf_move rfl rfl (.inl rfl) rfl rfl ?_ | refine kf_move rfl rfl (.inr rfl) rfl rfl ?_ | refine kf_const rfl rfl (.inl rfl) rfl ?_ | refine kf_const rfl rfl (.inr rfl) rfl ?_) | (refine kf_val rfl rfl rfl ?_; apply Exists.intro; refine And.intro (fun W hW N hN => ?_) ?_; · (go_simp; (try go_bits); exact hN)))
        refine kq_then ?_
        clear c1 c2 c3 q34 q35 p3 p36 q0
        have hC2 := H.out.next ((Below.refl _ W).drew)
        have hL := hC2.lay
        repeat (first | refine kw_seq ?_ | refine kw_block ?_ | refine kw_skip ?_ | refine kw_region ?_ | refine kl_nil ?_ | refine kq_then ?_ | refine kq_block ?_ | refine kw_exit ?_ | refine kq_then_exit ?_ | refine kq_block_here rfl ?_ | refine kq_block_far rfl ?_ | refine kq_again_exit ?_ | refine kw_ret ?_ | refine kq_then_ret ?_ | refine kq_block_ret ?_ | refine kq_again_ret ?_ | refine kw_ift rfl ?_ | refine kw_iff rfl ?_ | refine kl_ung rfl rfl ?_ | refine kl_skipg rfl rfl rfl rfl ?_ | refine kl_skipg0 rfl rfl rfl ?_ | refine kl_getL hL 2 rfl Try.underlying36 rfl (rinfoS _ _ _ HSL.out) rfl rfl rfl rfl rfl ?_ | refine kl_putL (cells := (sesV s (.slice (some ⟨b2, o2, none⟩) nD cD) (.slice (some ⟨b, o, none⟩) nD cG)).toArray) hL 0 rfl (rinfoS s _ _ HSL.out) (sizeZ s _ _ HSL.out) (sesV_one s _ _ rfl rfl) rfl rfl rfl rfl rfl (fun hL2 => ?_) | (first | refine kl_move rfl rfl (.inl rfl) rfl rfl ?_ | refine kl_move rfl rfl (.inr rfl) rfl rfl ?_ | refine kl_const rfl rfl (.inl rfl) rfl ?_ | refine kl_const rfl rfl (.inr rfl) rfl ?_) | ((first | refine kl_step rfl rfl rfl fun K hK => ?_ | refine kl_step0 rfl rfl rfl fun K hK => ?_); go_simp; (try go_bits); (first | refine hK _ _ ?_ | refine hK _ ?_); clear hK K))
        refine KQ.less [4, 5] ?_
        simp only [nrm, lk, Nat.reduceBEq, cond_true, cond_false]
        exact HR.out HCL.out _ hL2 ⟨hC2.ses.id, hC2.ses.size, hC2.ses.sum, hC2.ses.data.row hC2.nd _, hC2.ses.got.row hC2.ng _⟩
  · obtain rfl : k = nF := by omega
    have t1 : decide ((k : Int) < (k : Int)) = false := by simp
    have hcl : clash s f = false := clash_no hfa (by rw [HM.out]; exact hno.out)
    have HCL := Lib.hid hcl
    clear hcl hlt
    repeat (first | refine kw_seq ?_ | refine kw_block ?_ | refine kw_skip ?_ | refine kw_region ?_ | refine kl_nil ?_ | refine kq_then ?_ | refine kq_block ?_ | refine kw_exit ?_ | refine kq_then_exit ?_ | refine kq_block_here rfl ?_ | refine kq_block_far rfl ?_ | refine kq_again_exit ?_ | refine kw_ret ?_ | refine kq_then_ret ?_ | refine kq_block_ret ?_ | refine kq_again_ret ?_ | refine kw_ift rfl ?_ | refine kw_iff rfl ?_ | refine kl_ung rfl rfl ?_ | refine kl_skipg rfl rfl rfl rfl ?_ | refine kl_skipg0 rfl rfl rfl ?_ | (first | refine kl_move rfl rfl (.inl rfl) rfl rfl ?_ | refine kl_move rfl rfl (.inr rfl) rfl rfl ?_ | refine kl_const rfl rfl (.inl rfl) rfl ?_ | refine kl_const rfl rfl (.inr rfl) rfl ?_) | ((first | refine kl_step rfl rfl rfl fun K hK => ?_ | refine kl_step0 rfl rfl rfl fun K hK => ?_); go_simp; (try go_bits); (first | refine hK _ _ ?_ | refine hK _ ?_); clear hK K))
    refine KQ.less [2, 3, 4] ?_
    simp only [nrm, lk, Nat.reduceBEq, cond_true, cond_false]
    exact HQ.out HCL.out _ H.out
end Go.Proofs.Ytkgenkkcgegcbaa
