/- SessionOrders: the walk of a round behind its number. -/
import Derived.Test.YtonjpjiphcbemaaSesOrdE
import Derived.Test.YtonjpjiphcbemaaKnP
namespace Go.Proofs.Ytonjpjiphcbemaa
open Go.RowKit
attribute [local go_sem] ev_tmp ev_const ev_func ev_global lk_hit lk_miss uponK_value uponK_skip look_tmp look_const look_global look_func
theorem clone0_of {W : World} {o : Oper} {ρ : Operand → Value} {x y : Tmp} {g m c : Nat} {A : Option Addr} {k : List UInt8} {N : Value → World → Prop} {M : World → Prop} (ho : o.op = .call { callee := .builtin .append, args := #[.tmp x, .tmp y], argTypes := #[22, 22] })
    (hx : ρ (.tmp x) = .slice (some ⟨g, 0, none⟩) 0 0) (hy : ρ (.tmp y) = .slice A m c) (hr : Bs W A m k) (h0 : 0 < m) (hm : m ≤ 70368744177664)
    (h : ∀ v W', W'.ownsRow W.heap.size 5 1 v m (bv k) → Below W.heap.size W W' → N v W') : uponK Try.prog N M ((execOp ρ o).run Try.prog W) := by
  obtain ⟨v, W', h1, h2, h3⟩ := run_clone0 ho hx hy hr h0 hm
  rw [h1]
  exact h v W' h2 h3
theorem piece_mid (b : List UInt8) (q k h : Nat) (hk : k * q ≤ h) (hh : h = min (k * q + q) b.length) : (b.take h).drop (k * q) = piece b q k := by
  unfold piece
  rw [List.drop_take]
  subst hh
  apply List.ext_getElem?
  intro j
  rw [List.getElem?_take, List.getElem?_take, List.getElem?_drop]
  by_cases h1 : j < q
  · rw [if_pos h1]
    by_cases h2 : k * q + j < b.length
    · rw [if_pos (by omega)]
    · rw [if_neg (by omega), List.getElem?_eq_none (by omega)]
  · rw [if_neg h1, if_neg (by omega)]
def ChS (B : Nat) (s2 : Ses) : World → Value → Prop := fun W v => ∃ D2 G2, v = .tuple #[.agg (sesV s2 D2 G2).toArray, .int .i64 0] ∧ SesM W s2 D2 G2 ∧ Ty W 5 D2 ∧ Ty W 4 G2 ∧ Fr B D2 ∧ Fr B G2
theorem mono_chS (B : Nat) (s2 : Ses) : MonoP (ChS B s2) := fun W W' v hb ⟨D, G, e, h, t1, t2, r⟩ => ⟨D, G, e, h.keep (.of_below hb), t1.keep hb, t2.keep hb, r⟩
def SsS (B : Nat) (s2 : Ses) : World → Value → Prop := fun W v => ∃ D2 G2, v = .agg (sesV s2 D2 G2).toArray ∧ SesM W s2 D2 G2 ∧ Ty W 5 D2 ∧ Ty W 4 G2 ∧ Fr B D2 ∧ Fr B G2
theorem mono_ssS (B : Nat) (s2 : Ses) : MonoP (SsS B s2) := fun W W' v hb ⟨D, G, e, h, t1, t2, r⟩ => ⟨D, G, e, h.keep (.of_below hb), t1.keep hb, t2.keep hb, r⟩
def FrS (p : Nat) (l : List UInt8) : World → Value → Prop := fun W v => ∃ D, v = .agg (frmV ⟨2, 1, 0, (p : Int), z32, l⟩ D).toArray ∧ SlB W l D
theorem mono_frS (p : Nat) (l : List UInt8) : MonoP (FrS p l) := fun W W' v hb ⟨D, e, h⟩ => ⟨D, e, h.keep (.of_below hb)⟩
def AlS (B : Nat) : World → Value → Prop := fun W v => ∃ g, v = .pointer (some ⟨g, 0, none⟩) ∧ B ≤ g ∧ W.heap[g]? = some (.cells zSes.toArray 30 (0, 0))
theorem mono_alS (B : Nat) : MonoP (AlS B) := fun W W' v hb ⟨g, e, h, r⟩ => ⟨g, e, h, below_atK hb r⟩
theorem al_of {B : Nat} {W : World} {o : Oper} {ρ : Operand → Value} {N : Value → World → Prop} {M : World → Prop} (ho : o.op = .alloc 30) (hB : B ≤ W.heap.size) (h : ∀ v W', Below W.heap.size W W' → AlS B W' v → N v W') : uponK Try.prog N M ((execOp ρ o).run Try.prog W) := by
  unfold execOp
  simp only [ho, Sem.run_bind, run_alloc_row sesZero, Result.andThen_ok]
  exact h _ _ ((Below.refl _ _).alloc (Nat.le_refl _) _) ⟨_, rfl, hB, heap_alloc_new _ _⟩
theorem Lay.cons {w0 w : World} {V : Vars} (h : Lay w0 w V) {g : Nat} {cs : Array Value} {t : TypeId} (hB : w0.heap.size ≤ g) (hg : w.heap[g]? = some (.cells cs t (0, 0))) (hlt : ∀ p ∈ V, p.1 < g) : Lay w0 w ((g, cs, t) :: V) := ⟨h.below, hB, hg, hlt, h.vars⟩
def EmS : World → Value → Prop := fun _ v => ∃ g, v = .slice (some ⟨g, 0, none⟩) 0 0
theorem mono_emS : MonoP EmS := fun W W' v hb h => h
theorem mono_slB (l : List UInt8) : MonoP (fun W v => SlB W l v) := fun W W' v hb h => h.keep (.of_below hb)
set_option maxRecDepth 100000 in
set_option maxHeartbeats 4000000 in
theorem orders_mid {w wr : World} {g7 gg n q N k c : Nat} {A : Option Addr} {v2 v12 D Gv : Value} {b : List UInt8} {s : Ses} {G : List Bool} {Q : Exit → Act → World → Prop} (h0 : 0 < n) (hn : n ≤ 300) (hq : 0 < q) (hq2 : q ≤ 64) (hN : N = nPc n q) (hk : k < N) (hA : Bs w A n b) (hnc : n ≤ c) (hc : c ≤ 140737488351232) (hO : OrdI b q s G) (hM : SesM wr s D Gv)
  (hL : Lay w wr [(gg, (bls G).toArray, 4), (g7, (sesV s D Gv).toArray, 30)])
  (hQ : ∀ (w' : World) (D' G' : Value) (s' : Ses) (L1 : Nat), OrdI b q s' (G.set k true) → SesM w' s' D' G' → L1 = cnt false (G.set k true) → Lay w w' [(gg, (bls (G.set k true)).toArray, 4), (g7, (sesV s' D' G').toArray, 30)] → KQ Q .normal 154 [(0, .slice A n c), (1, .int .i64 (q : Int)), (2, v2), (7, .pointer (some ⟨g7, 0, none⟩)), (9, .int .i64 (N : Int)), (10, .slice (some ⟨gg, 0, none⟩) N N), (11, .int .i64 (L1 : Int)), (12, v12)] w') :
    KW Try.prog (restAt Try.f3 19) Q 154 [(0, .slice A n c), (1, .int .i64 (q : Int)), (2, v2), (7, .pointer (some ⟨g7, 0, none⟩)), (9, .int .i64 (N : Int)), (10, .slice (some ⟨gg, 0, none⟩) N N), (11, .int .i64 (cnt false G : Int)), (12, v12), (13, .int .i64 (k : Int))] wr := by
  conv => arg 2; whnf
  have hlN := hA.len
  have hkn : k * q < n := by subst hN; exact pc_lt hq hk
  have hN3 : N ≤ 300 := by subst hN; exact Nat.le_of_not_lt fun h => by have := pc_lt hq h; omega
  have hkb : k < nPc b.length q := by rw [hlN, ← hN]; exact hk
  obtain ⟨x, hx⟩ : ∃ x, G[k]? = some x := ⟨_, List.getElem?_eq_getElem (by rw [hO.Gl]; exact hkb)⟩
  have hE := ord_e hq hO hkb
  have hO2 := ord_step hq hO hkb
  obtain ⟨s2, hs2⟩ : ∃ s2, chunkS s (pS b q k) = s2 := ⟨_, rfl⟩
  rw [hs2] at hO2
  have hpl := piece_len b q k
  rw [hlN] at hpl
  have hp : (pS b q k) = ⟨2, 1, 0, ((k * q : Nat) : Int), z32, piece b q k⟩ := rfl
  rw [hp] at hE hs2
  have hmid := piece_mid b q k (min (k * q + q) n) (by omega) (by rw [hlN])
  obtain ⟨P, hP⟩ : ∃ P, k * q = P := ⟨_, rfl⟩
  rw [hP] at hkn hpl hE hs2 hmid
  obtain ⟨pc, hpc⟩ : ∃ pc, piece b q k = pc := ⟨_, rfl⟩
  rw [hpc] at hpl hE hs2 hmid
  have hbm := hA.mid_ (j := P) (k := min (P + q) n) (cap := c) (by omega) (by omega) hnc
  rw [hmid] at hbm
  obtain ⟨h, hh⟩ : ∃ h, min (P + q) n = h := ⟨_, rfl⟩
  rw [hh] at hbm
  obtain ⟨r, hr⟩ : ∃ r, h - P = r := ⟨_, rfl⟩
  rw [hr] at hbm
  have hpr : pc.length = r := by omega
  have r0 : 0 < r := by omega
  have m1 : IntKind.i64.wrap ((k : Int) * (q : Int)) = (P : Int) := by
    have : (k : Int) * (q : Int) = (P : Int) := by rw [← hP]; exact (Int.natCast_mul k q).symm
    rw [this, IntWalk.i64_in _ (by omega)]
  have m2 : (k : Int) * (q : Int) = (P : Int) := by rw [← hP]; exact (Int.natCast_mul k q).symm
  have m3 : IntKind.i64.wrap ((P : Int) + (q : Int)) = (P : Int) + q := IntWalk.i64_in _ (by omega)
  have m4 : (if (n : Int) < (P : Int) + (q : Int) then (n : Int) else (P : Int) + (q : Int)) = (h : Int) := by split <;> omega
  have k0 : (0 : Int) ≤ k := by omega
  have k1 : (k : Int) < N := by omega
  have p0 : (0 : Int) ≤ P := by omega
  have p1 : (P : Int) ≤ h := by omega
  have p2 : (h : Int) ≤ c := by omega
  have p3 : (P : Int) ≤ c := by omega
  have HA := Lib.hid hA
  have HO := Lib.hid hO
  have HO2 := Lib.hid hO2
  have HE := Lib.hid hE
  have HS2 := Lib.hid hs2
  have HM := Lib.hid hM
  have HS : Hid (s.sum.length = 32) := Lib.hid hM.sum
  have HX := Lib.hid hx
  have HQ := Lib.hid hQ
  have HB : Hid (Bs wr (if c = P then A else A.map (·.add P)) r pc) := Lib.hid (hbm.keep (.of_below hL.below))
  have HPR := Lib.hid hpr
  have HR7 : Hid (wr.rangeAt g7 0 (sesV s D Gv)) := Lib.hid (fun j v hv => by rw [Nat.zero_add]; exact hL.get 1 rfl hv)
  have HB0 : Hid (w.heap.size ≤ wr.heap.size) := Lib.hid hL.below.size
  have HLN := Lib.hid hlN
  have HKB := Lib.hid hkb
  have HNN := Lib.hid hN
  have hrP : h - P = r := hr
  clear hA hO hO2 hE hs2 hM hx hQ hmid hbm hpr hlN hkb hN hpc hp hpl hP hh hkn hr
  repeat (first | refine kw_seq ?_ | refine kw_block ?_ | refine kw_skip ?_ | refine kw_region ?_ | refine kl_nil ?_ | refine kq_then ?_ | refine kq_block ?_ | refine kw_exit ?_ | refine kq_then_exit ?_ | refine kq_block_here rfl ?_ | refine kq_block_far rfl ?_ | refine kq_again_exit ?_ | refine kw_ret ?_ | refine kq_then_ret ?_ | refine kq_block_ret ?_ | refine kq_again_ret ?_ | refine kw_ift rfl ?_ | refine kw_iff rfl ?_ | refine kl_ung rfl rfl ?_ | refine kl_skipg rfl rfl rfl rfl ?_ | refine kl_skipg0 rfl rfl rfl ?_ | (first | refine kl_move rfl rfl (.inl rfl) rfl rfl ?_ | refine kl_move rfl rfl (.inr rfl) rfl rfl ?_ | refine kl_const rfl rfl (.inl rfl) rfl ?_ | refine kl_const rfl rfl (.inr rfl) rfl ?_) | ((first | refine kl_step rfl rfl rfl fun K hK => ?_ | refine kl_step0 rfl rfl rfl fun K hK => ?_); go_simp; (try go_bits); (first | refine hK _ _ ?_ | refine hK _ ?_); clear hK K))
  refine KW.less [0, 1, 2, 7, 9, 10, 11, 12, 13] ?_
  simp only [nrm, lk, Nat.reduceBEq, cond_true, cond_false]
  refine kw_region_pivot 25 23 [none, none, none, none, some (EmS), none, none, none, none, none, none, none, none, none, none, none, none, none, some (fun W v => SlB W pc v), some (FrS P pc), some (ChS wr.heap.size s2), some (ChS wr.heap.size s2), some (SsS wr.heap.size s2), none, some (AlS wr.heap.size)]
    [[(7, none)], [(13, none)], [(1, none)], [(88, some 1), (89, some 2)], [], [(0, none)], [(13, none)], [(1, none)], [(93, some 6), (94, some 7)], [(13, none)], [(1, none)], [(96, some 9), (97, some 10)], [(1, none)], [(98, some 11), (99, some 12)], [(0, none)], [(101, some 14)], [(100, some 13), (102, some 15)], [(92, some 5), (95, some 8), (103, some 16)], [(91, some 4), (104, some 17)], [(90, some 3), (105, some 18)], [(87, some 0), (106, some 19)], [(107, some 20)], [(86, some 21)], [(86, some 21)], []]
    [0, 1, 2, 7, 9, 10, 11, 12, 13] (by kernel_rfl) (by kernel_rfl) (by kernel_rfl) rfl rfl rfl (by kernel_rfl) (by kernel_rfl)
    ⟨mono_emS, mono_slB _, mono_frS _ _, mono_chS _ _, mono_chS _ _, mono_ssS _ _, mono_alS _, trivial⟩ ?_
  repeat (first | apply exs_none | apply exs_some)
  refine exs_nil (And.intro ?v1_vc (And.intro ?v1_fin ?v1_fi2))
  case v1_vc =>
    refine ⟨?_, ?_, ?_, ?_, ?_, ?_, ?_, ?_, ?_, ?_, ?_, ?_, ?_, ?_, ?_, ?_, ?_, ?_, ?_, ?_, ?_, ?_, ?_, ?_, ?_, trivial⟩
    · refine vk_none rfl fun A W hR h N hN => ?_
      refine vk_of N ?_
      obtain ⟨h7, _⟩ := h
      replace h7 := h7 _ rfl
      rw [run_loadMid (b := g7) (off := 0) 30 (.tmp 7) rfl h7 (sesV s D Gv) _ (rangeAt_below HR7.out hR) Try.underlying30 rfl (infoS s D Gv HS.out)]
      exact hN _ _ (Below.refl _ _) rfl
    · exact vk_mov rfl (.inl rfl) fun A W _ h => h.1 _ rfl
    · exact vk_mov rfl (.inl rfl) fun A W _ h => h.1 _ rfl
    · refine vk_none rfl fun A W hR h N hN => ?_
      refine vk_of N ?_
      obtain ⟨h88, h89, _⟩ := h
      replace h88 : A.tmps[88]?.getD undef = _ := h88
      replace h89 : A.tmps[89]?.getD undef = _ := h89
      go_simp
      (try go_bits)
      exact hN _ _ (Below.refl _ _) rfl
    · refine vk_none rfl fun A W hR h N hN => ?_
      refine vk_of N ?_
      obtain ⟨_⟩ := h
      go_simp
      (try go_bits)
      exact hN _ _ ((Below.refl _ _).alloc (Nat.le_refl _) _) ⟨_, rfl⟩
    · exact vk_mov rfl (.inl rfl) fun A W _ h => h.1 _ rfl
    · exact vk_mov rfl (.inl rfl) fun A W _ h => h.1 _ rfl
    · exact vk_mov rfl (.inl rfl) fun A W _ h => h.1 _ rfl
    · refine vk_none rfl fun A W hR h N hN => ?_
      refine vk_of N ?_
      obtain ⟨h93, h94, _⟩ := h
      replace h93 : A.tmps[93]?.getD undef = _ := h93
      replace h94 : A.tmps[94]?.getD undef = _ := h94
      go_simp
      (try go_bits)
      exact hN _ _ (Below.refl _ _) rfl
    · exact vk_mov rfl (.inl rfl) fun A W _ h => h.1 _ rfl
    · exact vk_mov rfl (.inl rfl) fun A W _ h => h.1 _ rfl
    · refine vk_none rfl fun A W hR h N hN => ?_
      refine vk_of N ?_
      obtain ⟨h96, h97, _⟩ := h
      replace h96 : A.tmps[96]?.getD undef = _ := h96
      replace h97 : A.tmps[97]?.getD undef = _ := h97
      go_simp
      (try go_bits)
      exact hN _ _ (Below.refl _ _) rfl
    · exact vk_mov rfl (.inl rfl) fun A W _ h => h.1 _ rfl
    · refine vk_none rfl fun A W hR h N hN => ?_
      refine vk_of N ?_
      obtain ⟨h98, h99, _⟩ := h
      replace h98 : A.tmps[98]?.getD undef = _ := h98
      replace h99 : A.tmps[99]?.getD undef = _ := h99
      go_simp
      (try go_bits)
      exact hN _ _ (Below.refl _ _) rfl
    · exact vk_mov rfl (.inl rfl) fun A W _ h => h.1 _ rfl
    · refine vk_none rfl fun A W hR h N hN => ?_
      refine vk_of N ?_
      obtain ⟨h101, _⟩ := h
      replace h101 : A.tmps[101]?.getD undef = _ := h101
      go_simp
      (try go_bits)
      exact hN _ _ (Below.refl _ _) rfl
    · refine vk_none rfl fun A W hR h N hN => ?_
      refine vk_of N ?_
      obtain ⟨h100, h102, _⟩ := h
      replace h100 : A.tmps[100]?.getD undef = _ := h100
      replace h102 : A.tmps[102]?.getD undef = _ := h102
      go_simp
      (try go_bits)
      exact hN _ _ (Below.refl _ _) rfl
    · refine vk_none rfl fun A W hR h N hN => ?_
      refine vk_of N ?_
      obtain ⟨h92, h95, h103, _⟩ := h
      replace h92 : A.tmps[92]?.getD undef = _ := h92
      replace h95 : A.tmps[95]?.getD undef = _ := h95
      replace h103 : A.tmps[103]?.getD undef = _ := h103
      go_simp
      (try go_bits)
      exact hN _ _ (Below.refl _ _) rfl
    · refine vk_none rfl fun A W hR h N hN => ?_
      refine vk_of N ?_
      obtain ⟨h91, h104, _⟩ := h
      replace h104 : A.tmps[104]?.getD undef = _ := h104
      obtain ⟨ge, h91⟩ := h91
      refine clone0_of (ρ := look A) rfl h91 h104 (HB.out.keep (.of_below hR)) r0 (by omega) fun v' W' hown hb' => ?_
      obtain ⟨A4, c4, rfl, o1, o2, o3, _⟩ := own_slice hown
      exact hN _ _ hb' ⟨_, _, _, rfl, o3, o1, by simpa [maxLen] using o2⟩
    · refine vk_none rfl fun A W hR h N hN => ?_
      refine vk_of N ?_
      obtain ⟨h90, h105, _⟩ := h
      replace h90 : A.tmps[90]?.getD undef = _ := h90
      obtain ⟨A5, n5, c5, h105, hsl⟩ := h105
      go_simp
      (try go_bits)
      exact hN _ _ (Below.refl _ _) ⟨_, rfl, A5, n5, c5, rfl, hsl⟩
    · refine vk_call rfl rfl Try.func15 rfl (by kernel_rfl) fun A W hR h => ?_
      obtain ⟨h87, h106, _⟩ := h
      replace h87 : A.tmps[87]?.getD undef = _ := h87
      obtain ⟨DF, h106, hSF⟩ := h106
      show Calls _ _ #[A.tmps[87]?.getD undef, A.tmps[106]?.getD undef] _ _
      rw [h87, h106]
      refine Calls.mono (chunk_own s D Gv ⟨2, 1, 0, (P : Int), z32, pc⟩ DF n W (HM.out.keep (.of_below hR)) ⟨(by show I64 (2); unfold I64; omega), (by show I64 (1); unfold I64; omega), (by show I64 (0); unfold I64; omega), (by show I64 ((P : Int)); unfold I64; omega), z32_len, hSF⟩ (by rw [HO.out.ssz, HLN.out]) (by rw [HO.out.dl, HLN.out]) (by rw [HO.out.gl, HLN.out]) h0 (by omega)) ?_
      rintro e W' ⟨D2, G2, rfl, hM2, hb', fD, fG, y1, y2⟩
      rw [HE.out, HS2.out]
      rw [HS2.out] at hM2
      exact ⟨_, rfl, hb', D2, G2, rfl, hM2, y1, y2, fD.mono hR.size, fG.mono hR.size⟩
    · exact vk_mov rfl (.inl rfl) fun A W _ h => h.1
    · refine vk_none rfl fun A W hR h N hN => ?_
      refine vk_of N ?_
      obtain ⟨h86, _⟩ := h
      obtain ⟨D2, G2, h86, hM2, y1, y2, fD, fG⟩ := h86
      go_simp
      exact hN _ _ (Below.refl _ _) ⟨D2, G2, rfl, hM2, y1, y2, fD, fG⟩
    · refine vk_none rfl fun A W hR h N hN => ?_
      refine vk_of N ?_
      obtain ⟨h86, _⟩ := h
      obtain ⟨D2, G2, h86, hM2, y1, y2, fD, fG⟩ := h86
      go_simp
      exact hN _ _ (Below.refl _ _) rfl
    · refine vk_none rfl fun A W hR h N hN => ?_
      refine vk_of N ?_
      obtain ⟨_⟩ := h
      exact al_of (ρ := look A) rfl hR.size hN
  case v1_fin =>
    intro fa fW fk hR he
    have e23 := he.2.2.2.2.2.2.2.2.2.2.2.2.2.2.2.2.2.2.2.2.2.2.2.1
    have e22 := he.2.2.2.2.2.2.2.2.2.2.2.2.2.2.2.2.2.2.2.2.2.2.1
    have e24 := he.2.2.2.2.2.2.2.2.2.2.2.2.2.2.2.2.2.2.2.2.2.2.2.2.1
    clear he
    replace e23 : fa.tmps[109]?.getD undef = _ := e23
    replace fk := fk.more 109 _ e23
    clear e23
    obtain ⟨D2, G2, e22, hM2, y1, y2, fD, fG⟩ := e22
    obtain ⟨g14, e24, l14, hg14⟩ := e24
    replace e24 : fa.tmps[14]?.getD undef = _ := e24
    replace fk := fk.more 14 _ e24
    replace e22 : fa.tmps[108]?.getD undef = _ := e22
    replace fk := fk.more 108 _ e22
    have l7 : g7 < wr.heap.size := hL.lt 1 rfl
    have lg : gg < wr.heap.size := hL.lt 0 rfl
    have hL := hL.next hR
    have hL := hL.cons (g := g14) (by have := hL.below.size; have := HB0.out; omega) hg14 (fun p hp => by rcases List.mem_cons.1 hp with rfl | hp; exact Nat.lt_of_lt_of_le lg l14; rcases List.mem_singleton.1 hp with rfl; exact Nat.lt_of_lt_of_le l7 l14)
    have HM := Lib.hid hM2
    have HZ : Hid (s2.sum.length = 32) := Lib.hid hM2.sum
    have AG : Hid (Apart gg D2 G2) := Lib.hid ⟨fD.ne lg, fG.ne lg⟩
    have A7 : Hid (Apart g7 D2 G2) := Lib.hid ⟨fD.ne l7, fG.ne l7⟩
    have A14 : Hid (Apart g14 D2 G2) := Lib.hid ⟨y1.ne hg14 (by decide), y2.ne hg14 (by decide)⟩
    clear hM2 fD fG l7 lg hR e22 e24 y1 y2 hg14 l14
    refine kl_of _ _ ?_ fk
    clear fk fa
    simp only [nrm, lk, Nat.reduceBEq, cond_true, cond_false, List.take_succ_cons, List.take_zero, List.drop_succ_cons, List.drop_zero]
    refine kl_putL (cells := (sesV s2 D2 G2).toArray) hL 0 rfl (infoS s2 D2 G2 HZ.out) (sizeZ s2 _ _ HZ.out) (sesV_one _ _ _ HM.out.data.one HM.out.got.one) rfl rfl rfl rfl rfl (fun hL' => ?_)
    have HM := Lib.hid (HM.out.farRow A14.out (sesV s2 D2 G2).toArray)
    have hL : Lay w (fW.setRow g14 (sesV s2 D2 G2).toArray) [(g14, (sesV s2 D2 G2).toArray, 30), (gg, (bls G).toArray, 4), (g7, (sesV s D Gv).toArray, 30)] := hL'
    clear hL'
    generalize fW.setRow g14 (sesV s2 D2 G2).toArray = w2 at *
    have cx := hL.get 1 rfl (bls_at HX.out)
    cases x
    · have hc1 := cnt_set G k HX.out
      have hcl := cnt_le false G
      rw [HO.out.Gl, HLN.out, ← HNN.out] at hcl
      obtain ⟨L1, hL1⟩ : ∃ L1, cnt false (G.set k true) = L1 := ⟨_, rfl⟩
      rw [hL1] at hc1
      have HL1 := Lib.hid hL1.symm
      rw [← hc1] at hcl ⊢
      have s1 : ((L1 + 1 : Nat) : Int) - 1 = (L1 : Int) := by omega
      have s2' : IntKind.i64.wrap (((L1 + 1 : Nat) : Int) - 1) = (L1 : Int) := by rw [s1, IntWalk.i64_in _ (by omega)]
      clear hL1 hc1
      repeat (first | refine kw_seq ?_ | refine kw_region ?_ | refine kl_nil ?_ | refine kq_then ?_ | (first | refine kl_move rfl rfl (.inl rfl) rfl rfl ?_ | refine kl_move rfl rfl (.inr rfl) rfl rfl ?_ | refine kl_const rfl rfl (.inl rfl) rfl ?_ | refine kl_const rfl rfl (.inr rfl) rfl ?_) | ((first | refine kl_step rfl rfl rfl fun K hK => ?_ | refine kl_step0 rfl rfl rfl fun K hK => ?_); go_simp; (try go_bits); (first | refine hK _ _ ?_ | refine hK _ ?_); clear hK K))
      refine kw_iff rfl ?_
      refine kw_skip ?_
      repeat (first | refine kw_seq ?_ | refine kw_region ?_ | refine kl_nil ?_ | refine kq_then ?_ | (first | refine kl_move rfl rfl (.inl rfl) rfl rfl ?_ | refine kl_move rfl rfl (.inr rfl) rfl rfl ?_ | refine kl_const rfl rfl (.inl rfl) rfl ?_ | refine kl_const rfl rfl (.inr rfl) rfl ?_) | ((first | refine kl_step rfl rfl rfl fun K hK => ?_ | refine kl_step0 rfl rfl rfl fun K hK => ?_); go_simp; (try go_bits); (first | refine hK _ _ ?_ | refine hK _ ?_); clear hK K))
      refine kw_ift rfl ?_
      refine kw_region ?_
      repeat (first | (first | refine kl_move rfl rfl (.inl rfl) rfl rfl ?_ | refine kl_move rfl rfl (.inr rfl) rfl rfl ?_ | refine kl_const rfl rfl (.inl rfl) rfl ?_ | refine kl_const rfl rfl (.inr rfl) rfl ?_) | ((first | refine kl_step rfl rfl rfl fun K hK => ?_ | refine kl_step0 rfl rfl rfl fun K hK => ?_); go_simp; (try go_bits); (first | refine hK _ _ ?_ | refine hK _ ?_); clear hK K))
      refine kl_nil ?_
      refine kq_then ?_
      refine KW.less [0, 1, 2, 7, 9, 10, 11, 12, 13, 14] ?_
      simp only [nrm, lk, Nat.reduceBEq, cond_true, cond_false]
      exact orders_end h0 hn hq hk hN3 HA.out HX.out HO2.out HS.out HM.out HL1.out AG.out A7.out hL HQ.out
    · have hgs := set_same HX.out
      repeat (first | refine kw_seq ?_ | refine kw_region ?_ | refine kl_nil ?_ | refine kq_then ?_ | (first | refine kl_move rfl rfl (.inl rfl) rfl rfl ?_ | refine kl_move rfl rfl (.inr rfl) rfl rfl ?_ | refine kl_const rfl rfl (.inl rfl) rfl ?_ | refine kl_const rfl rfl (.inr rfl) rfl ?_) | ((first | refine kl_step rfl rfl rfl fun K hK => ?_ | refine kl_step0 rfl rfl rfl fun K hK => ?_); go_simp; (try go_bits); (first | refine hK _ _ ?_ | refine hK _ ?_); clear hK K))
      refine kw_iff rfl ?_
      refine kw_skip ?_
      repeat (first | refine kw_seq ?_ | refine kw_region ?_ | refine kl_nil ?_ | refine kq_then ?_ | (first | refine kl_move rfl rfl (.inl rfl) rfl rfl ?_ | refine kl_move rfl rfl (.inr rfl) rfl rfl ?_ | refine kl_const rfl rfl (.inl rfl) rfl ?_ | refine kl_const rfl rfl (.inr rfl) rfl ?_) | ((first | refine kl_step rfl rfl rfl fun K hK => ?_ | refine kl_step0 rfl rfl rfl fun K hK => ?_); go_simp; (try go_bits); (first | refine hK _ _ ?_ | refine hK _ ?_); clear hK K))
      refine kw_iff rfl ?_
      refine kw_skip ?_
      refine kq_then ?_
      refine KW.less [0, 1, 2, 7, 9, 10, 11, 12, 13, 14] ?_
      simp only [nrm, lk, Nat.reduceBEq, cond_true, cond_false]
      exact orders_end h0 hn hq hk hN3 HA.out HX.out HO2.out HS.out HM.out (by rw [hgs]) AG.out A7.out hL HQ.out
  case v1_fi2 =>
    intro fa fW fk hR he
    have e21 := he.2.2.2.2.2.2.2.2.2.2.2.2.2.2.2.2.2.2.2.2.2.1
    have e22 := he.2.2.2.2.2.2.2.2.2.2.2.2.2.2.2.2.2.2.2.2.2.2.1
    have e24 := he.2.2.2.2.2.2.2.2.2.2.2.2.2.2.2.2.2.2.2.2.2.2.2.2.1
    clear he
    obtain ⟨D3, G3, e21, _⟩ := e21
    replace e21 : fa.tmps[86]?.getD undef = _ := e21
    replace fk := fk.more 86 _ e21
    clear e21
    obtain ⟨D2, G2, e22, hM2, y1, y2, fD, fG⟩ := e22
    obtain ⟨g14, e24, l14, hg14⟩ := e24
    replace e24 : fa.tmps[14]?.getD undef = _ := e24
    replace fk := fk.more 14 _ e24
    replace e22 : fa.tmps[108]?.getD undef = _ := e22
    replace fk := fk.more 108 _ e22
    have l7 : g7 < wr.heap.size := hL.lt 1 rfl
    have lg : gg < wr.heap.size := hL.lt 0 rfl
    have hL := hL.next hR
    have hL := hL.cons (g := g14) (by have := hL.below.size; have := HB0.out; omega) hg14 (fun p hp => by rcases List.mem_cons.1 hp with rfl | hp; exact Nat.lt_of_lt_of_le lg l14; rcases List.mem_singleton.1 hp with rfl; exact Nat.lt_of_lt_of_le l7 l14)
    have HM := Lib.hid hM2
    have HZ : Hid (s2.sum.length = 32) := Lib.hid hM2.sum
    have AG : Hid (Apart gg D2 G2) := Lib.hid ⟨fD.ne lg, fG.ne lg⟩
    have A7 : Hid (Apart g7 D2 G2) := Lib.hid ⟨fD.ne l7, fG.ne l7⟩
    have A14 : Hid (Apart g14 D2 G2) := Lib.hid ⟨y1.ne hg14 (by decide), y2.ne hg14 (by decide)⟩
    clear hM2 fD fG l7 lg hR e22 e24 y1 y2 hg14 l14
    refine kl_of _ _ ?_ fk
    clear fk fa
    simp only [nrm, lk, Nat.reduceBEq, cond_true, cond_false, List.take_succ_cons, List.take_zero, List.drop_succ_cons, List.drop_zero]
    refine kl_putL (cells := (sesV s2 D2 G2).toArray) hL 0 rfl (infoS s2 D2 G2 HZ.out) (sizeZ s2 _ _ HZ.out) (sesV_one _ _ _ HM.out.data.one HM.out.got.one) rfl rfl rfl rfl rfl (fun hL' => ?_)
    have HM := Lib.hid (HM.out.farRow A14.out (sesV s2 D2 G2).toArray)
    have hL : Lay w (fW.setRow g14 (sesV s2 D2 G2).toArray) [(g14, (sesV s2 D2 G2).toArray, 30), (gg, (bls G).toArray, 4), (g7, (sesV s D Gv).toArray, 30)] := hL'
    clear hL'
    generalize fW.setRow g14 (sesV s2 D2 G2).toArray = w2 at *
    have cx := hL.get 1 rfl (bls_at HX.out)
    cases x
    · have hc1 := cnt_set G k HX.out
      have hcl := cnt_le false G
      rw [HO.out.Gl, HLN.out, ← HNN.out] at hcl
      obtain ⟨L1, hL1⟩ : ∃ L1, cnt false (G.set k true) = L1 := ⟨_, rfl⟩
      rw [hL1] at hc1
      have HL1 := Lib.hid hL1.symm
      rw [← hc1] at hcl ⊢
      have s1 : ((L1 + 1 : Nat) : Int) - 1 = (L1 : Int) := by omega
      have s2' : IntKind.i64.wrap (((L1 + 1 : Nat) : Int) - 1) = (L1 : Int) := by rw [s1, IntWalk.i64_in _ (by omega)]
      clear hL1 hc1
      repeat (first | refine kw_seq ?_ | refine kw_region ?_ | refine kl_nil ?_ | refine kq_then ?_ | (first | refine kl_move rfl rfl (.inl rfl) rfl rfl ?_ | refine kl_move rfl rfl (.inr rfl) rfl rfl ?_ | refine kl_const rfl rfl (.inl rfl) rfl ?_ | refine kl_const rfl rfl (.inr rfl) rfl ?_) | ((first | refine kl_step rfl rfl rfl fun K hK => ?_ | refine kl_step0 rfl rfl rfl fun K hK => ?_); go_simp; (try go_bits); (first | refine hK _ _ ?_ | refine hK _ ?_); clear hK K))
      refine kw_iff rfl ?_
      refine kw_skip ?_
      repeat (first | refine kw_seq ?_ | refine kw_region ?_ | refine kl_nil ?_ | refine kq_then ?_ | (first | refine kl_move rfl rfl (.inl rfl) rfl rfl ?_ | refine kl_move rfl rfl (.inr rfl) rfl rfl ?_ | refine kl_const rfl rfl (.inl rfl) rfl ?_ | refine kl_const rfl rfl (.inr rfl) rfl ?_) | ((first | refine kl_step rfl rfl rfl fun K hK => ?_ | refine kl_step0 rfl rfl rfl fun K hK => ?_); go_simp; (try go_bits); (first | refine hK _ _ ?_ | refine hK _ ?_); clear hK K))
      refine kw_ift rfl ?_
      refine kw_region ?_
      repeat (first | (first | refine kl_move rfl rfl (.inl rfl) rfl rfl ?_ | refine kl_move rfl rfl (.inr rfl) rfl rfl ?_ | refine kl_const rfl rfl (.inl rfl) rfl ?_ | refine kl_const rfl rfl (.inr rfl) rfl ?_) | ((first | refine kl_step rfl rfl rfl fun K hK => ?_ | refine kl_step0 rfl rfl rfl fun K hK => ?_); go_simp; (try go_bits); (first | refine hK _ _ ?_ | refine hK _ ?_); clear hK K))
      refine kl_nil ?_
      refine kq_then ?_
      refine KW.less [0, 1, 2, 7, 9, 10, 11, 12, 13, 14] ?_
      simp only [nrm, lk, Nat.reduceBEq, cond_true, cond_false]
      exact orders_end h0 hn hq hk hN3 HA.out HX.out HO2.out HS.out HM.out HL1.out AG.out A7.out hL HQ.out
    · have hgs := set_same HX.out
      repeat (first | refine kw_seq ?_ | refine kw_region ?_ | refine kl_nil ?_ | refine kq_then ?_ | (first | refine kl_move rfl rfl (.inl rfl) rfl rfl ?_ | refine kl_move rfl rfl (.inr rfl) rfl rfl ?_ | refine kl_const rfl rfl (.inl rfl) rfl ?_ | refine kl_const rfl rfl (.inr rfl) rfl ?_) | ((first | refine kl_step rfl rfl rfl fun K hK => ?_ | refine kl_step0 rfl rfl rfl fun K hK => ?_); go_simp; (try go_bits); (first | refine hK _ _ ?_ | refine hK _ ?_); clear hK K))
      refine kw_iff rfl ?_
      refine kw_skip ?_
      repeat (first | refine kw_seq ?_ | refine kw_region ?_ | refine kl_nil ?_ | refine kq_then ?_ | (first | refine kl_move rfl rfl (.inl rfl) rfl rfl ?_ | refine kl_move rfl rfl (.inr rfl) rfl rfl ?_ | refine kl_const rfl rfl (.inl rfl) rfl ?_ | refine kl_const rfl rfl (.inr rfl) rfl ?_) | ((first | refine kl_step rfl rfl rfl fun K hK => ?_ | refine kl_step0 rfl rfl rfl fun K hK => ?_); go_simp; (try go_bits); (first | refine hK _ _ ?_ | refine hK _ ?_); clear hK K))
      refine kw_iff rfl ?_
      refine kw_skip ?_
      refine kq_then ?_
      refine KW.less [0, 1, 2, 7, 9, 10, 11, 12, 13, 14] ?_
      simp only [nrm, lk, Nat.reduceBEq, cond_true, cond_false]
      exact orders_end h0 hn hq hk hN3 HA.out HX.out HO2.out HS.out HM.out (by rw [hgs]) AG.out A7.out hL HQ.out
end Go.Proofs.Ytonjpjiphcbemaa
