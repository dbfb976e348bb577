/- A region that draws its order: an operation that stores. No program in sight. The document's sum written out: a region of four stores. The document's sum: memory on its way; pieces of its code. -/
import Derived.Test.YtkncomkncfcecaaRegionL
import Derived.Test.YtkncomkncfcecaaShaSum
import Derived.Test.YtkncomkncfcecaaLay
set_option linter.unusedVariables false
set_option linter.unusedSimpArgs false
namespace Go.Proofs.Ytkncomkncfcecaa
open Go.RowKit
section
variable {P : Program} {ops : List Oper} {Q : Exit → Act → World → Prop} {a : Act} {Ss : List SPred} {R : (Nat → Bool) → World → Prop}
theorem vl_store {src : List (Nat × Option Nat)} {i : Nat} {o : Oper} (hw : ∀ L A W, Src (SLL Ss L) a A W src → Region.wanted o (yielded ops.toArray A.tmps) = true)
    (h : ∀ L A W, Closed ops L → L i = false → (∀ j, bindsTo o j = true → L j = true) → R L W → Src (SLL Ss L) a A W src →
      ∃ W', (execOp A.eval o).run P W = .ok .skip W' ∧ R (upd L i) W' ∧ Pres L i W W' 0 Ss ∧ SLL Ss (upd L i) i W' undef) : VL1 P Q a (SLL Ss) R ops src i o := by
  intro L A W K hd hc hl hpre hR0 hs hK
  rw [if_pos (hw L A W hs)]
  obtain ⟨W', hr, hR', hp, hS⟩ := h L A W hc hl hpre hR0 hs
  unfold Oper.wp
  rw [hr]
  exact hK undef W' hR' (fun j u hne hlj hsj => hp.get j u (by omega) (by rw [Nat.zero_add]; exact hlj) hsj) hS
end
theorem mono_trueL : MonoL (fun _ _ _ => True) := fun _ _ _ _ _ _ _ => trivial
end Go.Proofs.Ytkncomkncfcecaa
set_option linter.unusedVariables false
set_option linter.unusedSimpArgs false
namespace Go.Proofs.Ytkncomkncfcecaa
open Go.RowKit

/-- a byte is stored -/
theorem run_storeByteVar (W : World) (g i : Nat) (x : UInt8) {y : Value} (hc : W.cell? ⟨g, i, none⟩ = some y) (hf : W.frozen? ⟨g, i, none⟩ = false) :
    (storeVar 5 ⟨g, i, none⟩ (.int .u8 (x.toNat : Int))).run Try.prog W = .ok () (W.setCell ⟨g, i, none⟩ (.int .u8 (x.toNat : Int))) := by
  go_simp
theorem run_storeByteOp {o : Oper} {A : Act} {W : World} (p v : Tmp) (ho : o.op = .store 5 (.tmp p) (.tmp v)) {g i : Nat} {x : UInt8} (hp : A.tmps[p]?.getD undef = .pointer (some ⟨g, i, none⟩)) (hv : A.tmps[v]?.getD undef = .int .u8 (x.toNat : Int))
    {y : Value} (hc : W.cell? ⟨g, i, none⟩ = some y) (hf : W.frozen? ⟨g, i, none⟩ = false) :
    (execOp A.eval o).run Try.prog W = .ok .skip (W.setCell ⟨g, i, none⟩ (.int .u8 (x.toNat : Int))) := by
  have hp' : A.eval (.tmp p) = .pointer (some ⟨g, i, none⟩) := by rw [← hp]; exact Array.getD_eq_getD_getElem? ..
  have hv' : A.eval (.tmp v) = .int .u8 (x.toNat : Int) := by rw [← hv]; exact Array.getD_eq_getD_getElem? ..
  unfold execOp
  simp only [ho, hp', hv', Instr.storeAt, Instr.sureAddr, Sem.run_bind, Sem.run_pure, Result.andThen_ok, run_storeByteVar W g i x hc hf]
def sI (b : Bool) (i : Nat) (x : UInt8) (l : List UInt8) : List UInt8 := if b = true then l.set i x else l
theorem length_sI (b : Bool) (i : Nat) (x : UInt8) (l : List UInt8) : (sI b i x l).length = l.length := by unfold sI; split <;> simp
theorem sI_set (b : Bool) (i : Nat) (x : UInt8) (l : List UInt8) (j : Nat) (y : UInt8) (h : i ≠ j) : (sI b i x l).set j y = sI b i x (l.set j y) := by
  unfold sI
  split
  · exact List.set_comm _ _ h
  · rfl
theorem sI_on (i : Nat) (x : UInt8) (l : List UInt8) : (sI false i x l).set i x = sI true i x l := rfl
def outL (k : Nat) (F : List W32) (x0 x1 x2 x3 : UInt8) (L : Nat → Bool) : List UInt8 :=
  sI (L 37) (4 * k + 3) x3 (sI (L 35) (4 * k + 2) x2 (sI (L 33) (4 * k + 1) x1 (sI (L 31) (4 * k) x0 (outB F (4 * k) ++ List.replicate (32 - 4 * k) 0))))
theorem length_outL (k : Nat) (F : List W32) (x0 x1 x2 x3 : UInt8) (L : Nat → Bool) (hk : k < 8) : (outL k F x0 x1 x2 x3 L).length = 32 := by
  unfold outL
  rw [length_sI, length_sI, length_sI, length_sI, List.length_append, length_outB, List.length_replicate]
  omega
/-- memory while some of the four are stored -/
def OutR (B : World) (g2 g4 g7 k : Nat) (F : List W32) (x0 x1 x2 x3 : UInt8) (L : Nat → Bool) (W : World) : Prop :=
  Below B.heap.size B W ∧ B.heap.size ≤ g7 ∧ g2 ≠ g7 ∧ g4 ≠ g7 ∧ k < 8 ∧ W.heap[g2]? = some (.cells (bv z32).toArray 29 (0, 0)) ∧ W.heap[g4]? = some (.cells (wv F).toArray 83 (0, 0)) ∧
    W.heap[g7]? = some (.cells (bv (outL k F x0 x1 x2 x3 L)).toArray 29 (0, 0))
section
variable {B : World} {g2 g4 g7 k : Nat} {F : List W32} {x0 x1 x2 x3 : UInt8}
theorem below_at {W W' : World} (hb : Below W.heap.size W W') {g : Nat} {o : Obj} (h : W.heap[g]? = some o) : W'.heap[g]? = some o := by
  rw [hb.block g (Array.getElem?_eq_some_iff.1 h).1]; exact h
theorem out_keep {i : Nat} (h1 : 31 ≠ i) (h2 : 33 ≠ i) (h3 : 35 ≠ i) (h4 : 37 ≠ i) : ∀ L W W', Below W.heap.size W W' → OutR B g2 g4 g7 k F x0 x1 x2 x3 L W → OutR B g2 g4 g7 k F x0 x1 x2 x3 (upd L i) W' := by
  intro L W W' hb ⟨a1, a2, a3, a4, a5, a6, a7, a8⟩
  refine ⟨below_then a1 hb a1.size, a2, a3, a4, a5, below_at hb a6, below_at hb a7, ?_⟩
  unfold outL
  rw [upd_ne L h1, upd_ne L h2, upd_ne L h3, upd_ne L h4]
  exact below_at hb a8
theorem out_cell {L : Nat → Bool} {W : World} {X : W32} (h : OutR B g2 g4 g7 k F x0 x1 x2 x3 L W) (hX : F.getD k 0 = X) (hl : k < F.length) : W.cell? ⟨g4, k, none⟩ = some (.int .u32 (X.toNat : Int)) := by
  rw [← hX]; exact wv_cell h.2.2.2.2.2.2.1 hl
theorem out_old {L : Nat → Bool} {W : World} (h : OutR B g2 g4 g7 k F x0 x1 x2 x3 L W) {i : Nat} (hi : i < 32) : ∃ y, W.cell? ⟨g7, i, none⟩ = some y :=
  ⟨_, cell_of_block h.2.2.2.2.2.2.2 (by rw [List.getElem?_toArray, bv_get _ i (by rw [length_outL _ _ _ _ _ _ _ h.2.2.2.2.1]; exact hi)])⟩
theorem out_free {L : Nat → Bool} {W : World} (h : OutR B g2 g4 g7 k F x0 x1 x2 x3 L W) {i : Nat} : W.frozen? ⟨g7, i, none⟩ = false := free_of_block h.2.2.2.2.2.2.2
theorem out_set {L : Nat → Bool} {W : World} (h : OutR B g2 g4 g7 k F x0 x1 x2 x3 L W) (i j : Nat) (x : UInt8) (hL : (outL k F x0 x1 x2 x3 L).set j x = outL k F x0 x1 x2 x3 (upd L i)) :
    OutR B g2 g4 g7 k F x0 x1 x2 x3 (upd L i) (W.setCell ⟨g7, j, none⟩ (.int .u8 (x.toNat : Int))) := by
  obtain ⟨a1, a2, a3, a4, a5, a6, a7, a8⟩ := h
  refine ⟨a1.setCell a2 _, a2, a3, a4, a5, ?_, ?_, ?_⟩
  · rw [Below.heap_setCell _ _ _ _ a3]; exact a6
  · rw [Below.heap_setCell _ _ _ _ a4]; exact a7
  · rw [bv_setCell a8, hL]
theorem out_st31 {L : Nat → Bool} {W : World} (hl : L 31 = false) (h : OutR B g2 g4 g7 k F x0 x1 x2 x3 L W) (_ : k < 8) : OutR B g2 g4 g7 k F x0 x1 x2 x3 (upd L 31) (W.setCell ⟨g7, 4 * k, none⟩ (.int .u8 (x0.toNat : Int))) := by
  refine out_set h 31 _ x0 ?_
  unfold outL
  rw [sI_set _ _ _ _ _ _ (by omega), sI_set _ _ _ _ _ _ (by omega), sI_set _ _ _ _ _ _ (by omega), hl, sI_on, upd_self, upd_ne L (by decide), upd_ne L (by decide), upd_ne L (by decide)]
theorem out_st33 {L : Nat → Bool} {W : World} (hl : L 33 = false) (h : OutR B g2 g4 g7 k F x0 x1 x2 x3 L W) (_ : k < 8) : OutR B g2 g4 g7 k F x0 x1 x2 x3 (upd L 33) (W.setCell ⟨g7, 4 * k + 1, none⟩ (.int .u8 (x1.toNat : Int))) := by
  refine out_set h 33 _ x1 ?_
  unfold outL
  rw [sI_set _ _ _ _ _ _ (by omega), sI_set _ _ _ _ _ _ (by omega), hl, sI_on, upd_self, upd_ne L (by decide), upd_ne L (by decide), upd_ne L (by decide)]
theorem out_st35 {L : Nat → Bool} {W : World} (hl : L 35 = false) (h : OutR B g2 g4 g7 k F x0 x1 x2 x3 L W) (_ : k < 8) : OutR B g2 g4 g7 k F x0 x1 x2 x3 (upd L 35) (W.setCell ⟨g7, 4 * k + 2, none⟩ (.int .u8 (x2.toNat : Int))) := by
  refine out_set h 35 _ x2 ?_
  unfold outL
  rw [sI_set _ _ _ _ _ _ (by omega), hl, sI_on, upd_self, upd_ne L (by decide), upd_ne L (by decide), upd_ne L (by decide)]
theorem out_st37 {L : Nat → Bool} {W : World} (hl : L 37 = false) (h : OutR B g2 g4 g7 k F x0 x1 x2 x3 L W) (_ : k < 8) : OutR B g2 g4 g7 k F x0 x1 x2 x3 (upd L 37) (W.setCell ⟨g7, 4 * k + 3, none⟩ (.int .u8 (x3.toNat : Int))) := by
  refine out_set h 37 _ x3 ?_
  unfold outL
  rw [hl, sI_on, upd_self, upd_ne L (by decide), upd_ne L (by decide), upd_ne L (by decide)]
end
theorem outB_four (F : List W32) (k : Nat) (hk : k < 8) (x0 x1 x2 x3 : UInt8) (h0 : x0 = UInt8.ofNat ((F.getD k 0).toNat / 2 ^ 24)) (h1 : x1 = UInt8.ofNat ((F.getD k 0).toNat / 2 ^ 16)) (h2 : x2 = UInt8.ofNat ((F.getD k 0).toNat / 2 ^ 8)) (h3 : x3 = UInt8.ofNat ((F.getD k 0).toNat / 2 ^ 0)) (L : Nat → Bool) (hL : ∀ i, i < 38 → L i = true) :
    outL k F x0 x1 x2 x3 L = outB F (4 * (k + 1)) ++ List.replicate (32 - 4 * (k + 1)) 0 := by
  have e0 := outB_next F (4 * k)
  have e1 := outB_next F (4 * k + 1)
  have e2 := outB_next F (4 * k + 2)
  have e3 := outB_next F (4 * k + 3)
  rw [show (4 * k) / 4 = k by omega, show 24 - 8 * (4 * k % 4) = 24 by omega, ← h0] at e0
  rw [show (4 * k + 1) / 4 = k by omega, show 24 - 8 * ((4 * k + 1) % 4) = 16 by omega, ← h1] at e1
  rw [show (4 * k + 2) / 4 = k by omega, show 24 - 8 * ((4 * k + 2) % 4) = 8 by omega, ← h2] at e2
  rw [show (4 * k + 3) / 4 = k by omega, show 24 - 8 * ((4 * k + 3) % 4) = 0 by omega, ← h3] at e3
  unfold outL
  rw [hL 31 (by omega), hL 33 (by omega), hL 35 (by omega), hL 37 (by omega)]
  show ((((outB F (4 * k) ++ List.replicate (32 - 4 * k) 0).set (4 * k) x0).set (4 * k + 1) x1).set (4 * k + 2) x2).set (4 * k + 3) x3 = _
  rw [outB_set F (4 * k) (by omega) x0 e0, outB_set F (4 * k + 1) (by omega) x1 e1, outB_set F (4 * k + 2) (by omega) x2 e2, outB_set F (4 * k + 3) (by omega) x3 e3]
  rfl
theorem out_byte0 (X : W32) (e : Nat) (m : Nat) (hm : m = 2 ^ e) : ∃ x : UInt8, Hid ((X.toNat : Int) / (m : Int) % 256 = (x.toNat : Int)) ∧ Hid (x = UInt8.ofNat (X.toNat / 2 ^ e)) := by
  subst hm
  obtain ⟨x, h1, h2⟩ := out_byte X e
  refine ⟨x, ?_, h2⟩
  show _ = _
  rw [← h1, Int.natCast_pow]
  rfl
def outSs (g4 g7 k : Nat) (X : W32) (x0 x1 x2 x3 : UInt8) : List SPred :=
  [IsL (.int .i64 (k : Int)), IsL (.int .i64 (4 * (k : Int))), IsL (.int .i64 (k : Int)), IsL (.int .i64 (4 * (k : Int))), IsL (.int .i64 (4 * (k : Int) + 1)), IsL (.int .i64 (k : Int)), IsL (.int .i64 (4 * (k : Int))), IsL (.int .i64 (4 * (k : Int) + 2)), IsL (.int .i64 (k : Int)), IsL (.int .i64 (4 * (k : Int))), IsL (.int .i64 (4 * (k : Int) + 3)), IsL (.int .i64 (k : Int)), IsL (.pointer (some ⟨g4, k, none⟩)), IsL (.int .u32 (X.toNat : Int)), IsL (.int .u32 ((X.toNat : Int) / 16777216)), IsL (.int .u8 (x0.toNat : Int)), IsL (.int .i64 (k : Int)), IsL (.pointer (some ⟨g4, k, none⟩)), IsL (.int .u32 (X.toNat : Int)), IsL (.int .u32 ((X.toNat : Int) / 65536)), IsL (.int .u8 (x1.toNat : Int)), IsL (.int .i64 (k : Int)), IsL (.pointer (some ⟨g4, k, none⟩)), IsL (.int .u32 (X.toNat : Int)), IsL (.int .u32 ((X.toNat : Int) / 256)), IsL (.int .u8 (x2.toNat : Int)), IsL (.int .i64 (k : Int)), IsL (.pointer (some ⟨g4, k, none⟩)), IsL (.int .u32 (X.toNat : Int)), IsL (.int .u8 (x3.toNat : Int)), IsL (.pointer (some ⟨g7, 4 * k, none⟩)), fun _ _ _ => True, IsL (.pointer (some ⟨g7, 4 * k + 1, none⟩)), fun _ _ _ => True, IsL (.pointer (some ⟨g7, 4 * k + 2, none⟩)), fun _ _ _ => True, IsL (.pointer (some ⟨g7, 4 * k + 3, none⟩)), fun _ _ _ => True]
theorem outSs_mono (g4 g7 k : Nat) (X : W32) (x0 x1 x2 x3 : UInt8) : MonoAllL (outSs g4 g7 k X x0 x1 x2 x3) := ⟨mono_isL _, mono_isL _, mono_isL _, mono_isL _, mono_isL _, mono_isL _, mono_isL _, mono_isL _, mono_isL _, mono_isL _, mono_isL _, mono_isL _, mono_isL _, mono_isL _, mono_isL _, mono_isL _, mono_isL _, mono_isL _, mono_isL _, mono_isL _, mono_isL _, mono_isL _, mono_isL _, mono_isL _, mono_isL _, mono_isL _, mono_isL _, mono_isL _, mono_isL _, mono_isL _, mono_isL _, mono_trueL, mono_isL _, mono_trueL, mono_isL _, mono_trueL, mono_isL _, mono_trueL, trivial⟩
theorem outSs_pres (g4 g7 k : Nat) (X : W32) (x0 x1 x2 x3 : UInt8) (L : Nat → Bool) (i : Nat) (W W' : World) : Pres L i W W' 0 (outSs g4 g7 k X x0 x1 x2 x3) :=
  ⟨fun _ _ _ h => h, fun _ _ _ h => h, fun _ _ _ h => h, fun _ _ _ h => h, fun _ _ _ h => h, fun _ _ _ h => h, fun _ _ _ h => h, fun _ _ _ h => h, fun _ _ _ h => h, fun _ _ _ h => h, fun _ _ _ h => h, fun _ _ _ h => h, fun _ _ _ h => h, fun _ _ _ h => h, fun _ _ _ h => h, fun _ _ _ h => h, fun _ _ _ h => h, fun _ _ _ h => h, fun _ _ _ h => h, fun _ _ _ h => h, fun _ _ _ h => h, fun _ _ _ h => h, fun _ _ _ h => h, fun _ _ _ h => h, fun _ _ _ h => h, fun _ _ _ h => h, fun _ _ _ h => h, fun _ _ _ h => h, fun _ _ _ h => h, fun _ _ _ h => h, fun _ _ _ h => h, fun _ _ _ h => h, fun _ _ _ h => h, fun _ _ _ h => h, fun _ _ _ h => h, fun _ _ _ h => h, fun _ _ _ h => h, fun _ _ _ h => h, trivial⟩
end Go.Proofs.Ytkncomkncfcecaa
set_option linter.unusedVariables false
set_option linter.unusedSimpArgs false
namespace Go.Proofs.Ytkncomkncfcecaa
open Go.RowKit

theorem st8Info : (Try.prog.info? 83).map (·.size) = some 8 := by kernel_rfl
theorem st8Under : Try.prog.underlying 83 = some (.array 8 80) := by kernel_rfl
theorem st8Zero : (Try.prog.info? 83).bind (·.zero) = some (.agg (wv z8).toArray) := zero_of z8 (by kernel_rfl)
theorem infoR (L : List W32) (h : L.length = 8) : (Try.prog.info? 83).map (·.size) = some (wv L).toArray.size := by rw [st8Info, size_wv, h]
theorem len_byteR (N i : Nat) : ∃ x : UInt8, (N : Int) * 8 / 2 ^ (8 * i) % 256 = (x.toNat : Int) ∧ x = UInt8.ofNat (N * 8 / 2 ^ (8 * i)) := by
  refine ⟨_, ?_, rfl⟩
  rw [UInt8.toNat_ofNat']
  generalize 8 * i = e
  rw [Int.natCast_emod, Int.natCast_ediv, Int.natCast_mul, Int.natCast_pow]
  rfl
theorem piece_get (P : List UInt8) (a t : Nat) (ht : t < 64) : ((P.drop a).take 64).getD t 0 = P.getD (a + t) 0 := by
  rw [List.getD_eq_getElem?_getD, List.getD_eq_getElem?_getD, List.getElem?_take, if_pos ht, List.getElem?_drop]
theorem be32_piece (P : List UInt8) (a q : Nat) (hq : q + 3 < 64) : be32 ((P.drop a).take 64) q = be4 (P.getD (a + q) 0) (P.getD (a + q + 1) 0) (P.getD (a + q + 2) 0) (P.getD (a + q + 3) 0) := by
  unfold be32
  rw [piece_get _ _ _ (by omega), piece_get _ _ _ (by omega), piece_get _ _ _ (by omega), piece_get _ _ _ (by omega)]
  rfl
theorem wl_setR (l : List UInt8) (k : Nat) (hk : k < 64) (W : List W32) (hW : W.length = 64) (x : W32) (hx : wl l (k + 1) = wl l k ++ [x]) : (wl l k ++ W.drop k).set k x = wl l (k + 1) ++ W.drop (k + 1) := by
  rw [wl_set l k hk (W.drop k) (by rw [List.length_drop, hW]) x hx, List.tail_drop]
theorem addW_allR (s t : ShaSt) : addW s.words t.words 8 = (addSt s t).words := by
  unfold addSt addW ShaSt.words
  simp [BitVec.add_comm]

theorem shaX_code2 (t : ShaSt) (k w : W32) : (((t.h.toNat : Int) + bits .xor .u32 (bits .xor .u32 ((ror t.e 6).toNat : Int) ((ror t.e 11).toNat : Int)) ((ror t.e 25).toNat : Int) +
    bits .xor .u32 (bits .and .u32 (t.e.toNat : Int) (t.f.toNat : Int)) (bits .and .u32 (bits .xor .u32 (if IntKind.u32.signed = true then -1 else IntKind.u32.max) (t.e.toNat : Int)) (t.g.toNat : Int)) + (k.toNat : Int)) % 4294967296 + (w.toNat : Int)) % 4294967296 = ((shaX t k w).toNat : Int) := by
  rw [not_code, u32_xor_bv, u32_xor_bv, u32_and_bv, u32_and_bv, u32_xor_bv, add4_code, add_code']
  rfl
theorem shaY_code2 (t : ShaSt) : (bits .xor .u32 (bits .xor .u32 ((ror t.a 2).toNat : Int) ((ror t.a 13).toNat : Int)) ((ror t.a 22).toNat : Int) +
    bits .xor .u32 (bits .xor .u32 (bits .and .u32 (t.a.toNat : Int) (t.b.toNat : Int)) (bits .and .u32 (t.a.toNat : Int) (t.c.toNat : Int))) (bits .and .u32 (t.b.toNat : Int) (t.c.toNat : Int))) % 4294967296 = ((shaY t).toNat : Int) := by
  rw [u32_xor_bv, u32_xor_bv, u32_and_bv, u32_and_bv, u32_and_bv, u32_xor_bv, u32_xor_bv, add_code']
  rfl

/-- memory on its way: the text's pieces P at b, the sum's words S, the words W of the piece -/
structure Sh (w : World) (b o q : Nat) (P : List UInt8) (g2 g3 g4 g8 : Nat) (S W : List W32) (wr : World) : Prop where
  B : Bs wr (some ⟨b, o, none⟩) q P
  below : Below w.heap.size w wr
  h2 : wr.heap[g2]? = some (.cells (bv z32).toArray 29 (0, 0))
  h3 : wr.heap[g3]? = some (.cells (wv ks).toArray 81 (0, 0))
  h4 : wr.heap[g4]? = some (.cells (wv S).toArray 83 (0, 0))
  h8 : wr.heap[g8]? = some (.cells (wv W).toArray 81 (0, 0))
structure Ap (w : World) (b g2 g3 g4 g8 : Nat) : Prop where
  n23 : g2 ≠ g3
  n24 : g2 ≠ g4
  n28 : g2 ≠ g8
  n34 : g3 ≠ g4
  n38 : g3 ≠ g8
  n48 : g4 ≠ g8
  b2 : b ≠ g2
  b3 : b ≠ g3
  b4 : b ≠ g4
  b8 : b ≠ g8
  w2 : w.heap.size ≤ g2
  w4 : w.heap.size ≤ g4
  w8 : w.heap.size ≤ g8
section
variable {w wr W' : World} {b o q : Nat} {P : List UInt8} {g2 g3 g4 g8 : Nat} {S W : List W32}
theorem lt_of_at {w : World} {g : Nat} {x : Obj} (h : w.heap[g]? = some x) : g < w.heap.size := (Array.getElem?_eq_some_iff.1 h).1
theorem Sh.next (h : Sh w b o q P g2 g3 g4 g8 S W wr) (hb : Below wr.heap.size wr W') : Sh w b o q P g2 g3 g4 g8 S W W' where
  B := h.B.keep (.of_below hb)
  below := below_then h.below hb h.below.size
  h2 := by rw [hb.block _ (lt_of_at h.h2)]; exact h.h2
  h3 := by rw [hb.block _ (lt_of_at h.h3)]; exact h.h3
  h4 := by rw [hb.block _ (lt_of_at h.h4)]; exact h.h4
  h8 := by rw [hb.block _ (lt_of_at h.h8)]; exact h.h8
theorem Sh.set8 (h : Sh w b o q P g2 g3 g4 g8 S W wr) (a : Ap w b g2 g3 g4 g8) (k : Nat) (x : W32) : Sh w b o q P g2 g3 g4 g8 S (W.set k x) (wr.setCell ⟨g8, k, none⟩ (.int .u32 (x.toNat : Int))) where
  B := Vs.far h.B (fun b' o' e => by injection e with e; injection e with e; subst e; exact a.b8) _
  below := h.below.setCell a.w8 _
  h2 := by rw [Below.heap_setCell _ _ _ _ a.n28]; exact h.h2
  h3 := by rw [Below.heap_setCell _ _ _ _ a.n38]; exact h.h3
  h4 := by rw [Below.heap_setCell _ _ _ _ a.n48]; exact h.h4
  h8 := wv_setCell h.h8 k x
theorem Sh.set4 (h : Sh w b o q P g2 g3 g4 g8 S W wr) (a : Ap w b g2 g3 g4 g8) (k : Nat) (x : W32) : Sh w b o q P g2 g3 g4 g8 (S.set k x) W (wr.setCell ⟨g4, k, none⟩ (.int .u32 (x.toNat : Int))) where
  B := Vs.far h.B (fun b' o' e => by injection e with e; injection e with e; subst e; exact a.b4) _
  below := h.below.setCell a.w4 _
  h2 := by rw [Below.heap_setCell _ _ _ _ a.n24]; exact h.h2
  h3 := by rw [Below.heap_setCell _ _ _ _ a.n34]; exact h.h3
  h4 := wv_setCell h.h4 k x
  h8 := by rw [Below.heap_setCell _ _ _ _ (Ne.symm a.n48)]; exact h.h8
structure A15 (w : World) (b g2 g3 g4 g8 g15 : Nat) : Prop where
  n2 : g2 ≠ g15
  n3 : g3 ≠ g15
  n4 : g4 ≠ g15
  n8 : g8 ≠ g15
  nb : b ≠ g15
  w15 : w.heap.size ≤ g15
theorem Sh.row15 {g15 : Nat} (h : Sh w b o q P g2 g3 g4 g8 S W wr) (a : A15 w b g2 g3 g4 g8 g15) (cs : Array Value) : Sh w b o q P g2 g3 g4 g8 S W (wr.setRow g15 cs) where
  B := Vs.setRow h.B (fun b' o' e => by injection e with e; injection e with e; subst e; exact a.nb) _
  below := below_setRow h.below a.w15 _
  h2 := by rw [setRow_other _ _ _ _ a.n2]; exact h.h2
  h3 := by rw [setRow_other _ _ _ _ a.n3]; exact h.h3
  h4 := by rw [setRow_other _ _ _ _ a.n4]; exact h.h4
  h8 := by rw [setRow_other _ _ _ _ a.n8]; exact h.h8
end
end Go.Proofs.Ytkncomkncfcecaa
