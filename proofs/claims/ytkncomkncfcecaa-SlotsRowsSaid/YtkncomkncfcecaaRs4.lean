/- A region that draws its order: an operation that stores. No program in sight. The document's sum written out: a region of four stores. The document's sum: memory on its way; pieces of its code. The document's sum: sixteen words of a piece. -/
import Derived.Test.YtkncomkncfcecaaRegionL
import Derived.Test.YtkncomkncfcecaaShaSum
import Derived.Test.YtkncomkncfcecaaLay
set_option linter.unusedVariables false
set_option linter.unusedSimpArgs false
namespace Go.Proofs.Ytkncomkncfcecaa
open Go.RowKit
section
variable {P : Program} {ops : List Oper} {Q : Exit → Act → World → Prop} {a : Act} {Ss : List SPred} {R : (Nat → Bool) → World → Prop}
theorem vl_store {src : List (Nat × Option Nat)} {i : Nat} {o : Oper} (hw : ∀ L A W, Src (SLL Ss L) a A W src → Region.wanted o (yielded ops.toArray A.tmps) = true)
    (h : ∀ L A W, Closed ops L → L i = false → (∀ j, bindsTo o j = true → L j = true) → R L W → Src (SLL Ss L) a A W src →
      ∃ W', (execOp A.eval o).run P W = .ok .skip W' ∧ R (upd L i) W' ∧ Pres L i W W' 0 Ss ∧ SLL Ss (upd L i) i W' undef) : VL1 P Q a (SLL Ss) R ops src i o := by
  intro L A W K hd hc hl hpre hR0 hs hK
  rw [if_pos (hw L A W hs)]
  obtain ⟨W', hr, hR', hp, hS⟩ := h L A W hc hl hpre hR0 hs
  unfold Oper.wp
  rw [hr]
  exact hK undef W' hR' (fun j u hne hlj hsj => hp.get j u (by omega) (by rw [Nat.zero_add]; exact hlj) hsj) hS
end
theorem pres_true {L : Nat → Bool} {i k : Nat} {W W' : World} : k ≠ i → L k = true → ∀ u, (fun _ _ _ => True : SPred) L W u → (fun _ _ _ => True : SPred) (upd L i) W' u := fun _ _ _ _ => trivial
theorem mono_trueL : MonoL (fun _ _ _ => True) := fun _ _ _ _ _ _ _ => trivial
end Go.Proofs.Ytkncomkncfcecaa
set_option linter.unusedVariables false
set_option linter.unusedSimpArgs false
namespace Go.Proofs.Ytkncomkncfcecaa
open Go.RowKit

/-- a byte is stored -/
theorem run_storeByteVar (W : World) (g i : Nat) (x : UInt8) {y : Value} (hc : W.cell? ⟨g, i, none⟩ = some y) (hf : W.frozen? ⟨g, i, none⟩ = false) :
    (storeVar 5 ⟨g, i, none⟩ (.int .u8 (x.toNat : Int))).run Try.prog W = .ok () (W.setCell ⟨g, i, none⟩ (.int .u8 (x.toNat : Int))) := by
  go_simp
theorem run_storeByteOp {o : Oper} {A : Act} {W : World} (p v : Tmp) (ho : o.op = .store 5 (.tmp p) (.tmp v)) {g i : Nat} {x : UInt8} (hp : A.tmps[p]?.getD undef = .pointer (some ⟨g, i, none⟩)) (hv : A.tmps[v]?.getD undef = .int .u8 (x.toNat : Int))
    {y : Value} (hc : W.cell? ⟨g, i, none⟩ = some y) (hf : W.frozen? ⟨g, i, none⟩ = false) :
    (execOp A.eval o).run Try.prog W = .ok .skip (W.setCell ⟨g, i, none⟩ (.int .u8 (x.toNat : Int))) := by
  have hp' : A.eval (.tmp p) = .pointer (some ⟨g, i, none⟩) := by rw [← hp]; exact Array.getD_eq_getD_getElem? ..
  have hv' : A.eval (.tmp v) = .int .u8 (x.toNat : Int) := by rw [← hv]; exact Array.getD_eq_getD_getElem? ..
  unfold execOp
  simp only [ho, hp', hv', Instr.storeAt, Instr.sureAddr, Sem.run_bind, Sem.run_pure, Result.andThen_ok, run_storeByteVar W g i x hc hf]
def sI (b : Bool) (i : Nat) (x : UInt8) (l : List UInt8) : List UInt8 := if b = true then l.set i x else l
theorem length_sI (b : Bool) (i : Nat) (x : UInt8) (l : List UInt8) : (sI b i x l).length = l.length := by unfold sI; split <;> simp
theorem sI_set (b : Bool) (i : Nat) (x : UInt8) (l : List UInt8) (j : Nat) (y : UInt8) (h : i ≠ j) : (sI b i x l).set j y = sI b i x (l.set j y) := by
  unfold sI
  split
  · exact List.set_comm _ _ h
  · rfl
theorem sI_on (i : Nat) (x : UInt8) (l : List UInt8) : (sI false i x l).set i x = sI true i x l := rfl
def outL (k : Nat) (F : List W32) (x0 x1 x2 x3 : UInt8) (L : Nat → Bool) : List UInt8 :=
  sI (L 37) (4 * k + 3) x3 (sI (L 35) (4 * k + 2) x2 (sI (L 33) (4 * k + 1) x1 (sI (L 31) (4 * k) x0 (outB F (4 * k) ++ List.replicate (32 - 4 * k) 0))))
theorem length_outL (k : Nat) (F : List W32) (x0 x1 x2 x3 : UInt8) (L : Nat → Bool) (hk : k < 8) : (outL k F x0 x1 x2 x3 L).length = 32 := by
  unfold outL
  rw [length_sI, length_sI, length_sI, length_sI, List.length_append, length_outB, List.length_replicate]
  omega
/-- memory while some of the four are stored -/
def OutR (B : World) (g2 g4 g7 k : Nat) (F : List W32) (x0 x1 x2 x3 : UInt8) (L : Nat → Bool) (W : World) : Prop :=
  Below B.heap.size B W ∧ B.heap.size ≤ g7 ∧ g2 ≠ g7 ∧ g4 ≠ g7 ∧ k < 8 ∧ W.heap[g2]? = some (.cells (bv z32).toArray 29 (0, 0)) ∧ W.heap[g4]? = some (.cells (wv F).toArray 83 (0, 0)) ∧
    W.heap[g7]? = some (.cells (bv (outL k F x0 x1 x2 x3 L)).toArray 29 (0, 0))
section
variable {B : World} {g2 g4 g7 k : Nat} {F : List W32} {x0 x1 x2 x3 : UInt8}
theorem below_at {W W' : World} (hb : Below W.heap.size W W') {g : Nat} {o : Obj} (h : W.heap[g]? = some o) : W'.heap[g]? = some o := by
  rw [hb.block g (Array.getElem?_eq_some_iff.1 h).1]; exact h
theorem out_keep {i : Nat} (h1 : 31 ≠ i) (h2 : 33 ≠ i) (h3 : 35 ≠ i) (h4 : 37 ≠ i) : ∀ L W W', Below W.heap.size W W' → OutR B g2 g4 g7 k F x0 x1 x2 x3 L W → OutR B g2 g4 g7 k F x0 x1 x2 x3 (upd L i) W' := by
  intro L W W' hb ⟨a1, a2, a3, a4, a5, a6, a7, a8⟩
  refine ⟨below_then a1 hb a1.size, a2, a3, a4, a5, below_at hb a6, below_at hb a7, ?_⟩
  unfold outL
  rw [upd_ne L h1, upd_ne L h2, upd_ne L h3, upd_ne L h4]
  exact below_at hb a8
theorem out_cell {L : Nat → Bool} {W : World} {X : W32} (h : OutR B g2 g4 g7 k F x0 x1 x2 x3 L W) (hX : F.getD k 0 = X) (hl : k < F.length) : W.cell? ⟨g4, k, none⟩ = some (.int .u32 (X.toNat : Int)) := by
  rw [← hX]; exact wv_cell h.2.2.2.2.2.2.1 hl
theorem out_old {L : Nat → Bool} {W : World} (h : OutR B g2 g4 g7 k F x0 x1 x2 x3 L W) {i : Nat} (hi : i < 32) : ∃ y, W.cell? ⟨g7, i, none⟩ = some y :=
  ⟨_, cell_of_block h.2.2.2.2.2.2.2 (by rw [List.getElem?_toArray, bv_get _ i (by rw [length_outL _ _ _ _ _ _ _ h.2.2.2.2.1]; exact hi)])⟩
theorem out_free {L : Nat → Bool} {W : World} (h : OutR B g2 g4 g7 k F x0 x1 x2 x3 L W) {i : Nat} : W.frozen? ⟨g7, i, none⟩ = false := free_of_block h.2.2.2.2.2.2.2
theorem out_set {L : Nat → Bool} {W : World} (h : OutR B g2 g4 g7 k F x0 x1 x2 x3 L W) (i j : Nat) (x : UInt8) (hL : (outL k F x0 x1 x2 x3 L).set j x = outL k F x0 x1 x2 x3 (upd L i)) :
    OutR B g2 g4 g7 k F x0 x1 x2 x3 (upd L i) (W.setCell ⟨g7, j, none⟩ (.int .u8 (x.toNat : Int))) := by
  obtain ⟨a1, a2, a3, a4, a5, a6, a7, a8⟩ := h
  refine ⟨a1.setCell a2 _, a2, a3, a4, a5, ?_, ?_, ?_⟩
  · rw [Below.heap_setCell _ _ _ _ a3]; exact a6
  · rw [Below.heap_setCell _ _ _ _ a4]; exact a7
  · rw [bv_setCell a8, hL]
theorem out_st31 {L : Nat → Bool} {W : World} (hl : L 31 = false) (h : OutR B g2 g4 g7 k F x0 x1 x2 x3 L W) (_ : k < 8) : OutR B g2 g4 g7 k F x0 x1 x2 x3 (upd L 31) (W.setCell ⟨g7, 4 * k, none⟩ (.int .u8 (x0.toNat : Int))) := by
  refine out_set h 31 _ x0 ?_
  unfold outL
  rw [sI_set _ _ _ _ _ _ (by omega), sI_set _ _ _ _ _ _ (by omega), sI_set _ _ _ _ _ _ (by omega), hl, sI_on, upd_self, upd_ne L (by decide), upd_ne L (by decide), upd_ne L (by decide)]
theorem out_st33 {L : Nat → Bool} {W : World} (hl : L 33 = false) (h : OutR B g2 g4 g7 k F x0 x1 x2 x3 L W) (_ : k < 8) : OutR B g2 g4 g7 k F x0 x1 x2 x3 (upd L 33) (W.setCell ⟨g7, 4 * k + 1, none⟩ (.int .u8 (x1.toNat : Int))) := by
  refine out_set h 33 _ x1 ?_
  unfold outL
  rw [sI_set _ _ _ _ _ _ (by omega), sI_set _ _ _ _ _ _ (by omega), hl, sI_on, upd_self, upd_ne L (by decide), upd_ne L (by decide), upd_ne L (by decide)]
theorem out_st35 {L : Nat → Bool} {W : World} (hl : L 35 = false) (h : OutR B g2 g4 g7 k F x0 x1 x2 x3 L W) (_ : k < 8) : OutR B g2 g4 g7 k F x0 x1 x2 x3 (upd L 35) (W.setCell ⟨g7, 4 * k + 2, none⟩ (.int .u8 (x2.toNat : Int))) := by
  refine out_set h 35 _ x2 ?_
  unfold outL
  rw [sI_set _ _ _ _ _ _ (by omega), hl, sI_on, upd_self, upd_ne L (by decide), upd_ne L (by decide), upd_ne L (by decide)]
theorem out_st37 {L : Nat → Bool} {W : World} (hl : L 37 = false) (h : OutR B g2 g4 g7 k F x0 x1 x2 x3 L W) (_ : k < 8) : OutR B g2 g4 g7 k F x0 x1 x2 x3 (upd L 37) (W.setCell ⟨g7, 4 * k + 3, none⟩ (.int .u8 (x3.toNat : Int))) := by
  refine out_set h 37 _ x3 ?_
  unfold outL
  rw [hl, sI_on, upd_self, upd_ne L (by decide), upd_ne L (by decide), upd_ne L (by decide)]
end
theorem outB_four (F : List W32) (k : Nat) (hk : k < 8) (x0 x1 x2 x3 : UInt8) (h0 : x0 = UInt8.ofNat ((F.getD k 0).toNat / 2 ^ 24)) (h1 : x1 = UInt8.ofNat ((F.getD k 0).toNat / 2 ^ 16)) (h2 : x2 = UInt8.ofNat ((F.getD k 0).toNat / 2 ^ 8)) (h3 : x3 = UInt8.ofNat ((F.getD k 0).toNat / 2 ^ 0)) (L : Nat → Bool) (hL : ∀ i, i < 38 → L i = true) :
    outL k F x0 x1 x2 x3 L = outB F (4 * (k + 1)) ++ List.replicate (32 - 4 * (k + 1)) 0 := by
  have e0 := outB_next F (4 * k)
  have e1 := outB_next F (4 * k + 1)
  have e2 := outB_next F (4 * k + 2)
  have e3 := outB_next F (4 * k + 3)
  rw [show (4 * k) / 4 = k by omega, show 24 - 8 * (4 * k % 4) = 24 by omega, ← h0] at e0
  rw [show (4 * k + 1) / 4 = k by omega, show 24 - 8 * ((4 * k + 1) % 4) = 16 by omega, ← h1] at e1
  rw [show (4 * k + 2) / 4 = k by omega, show 24 - 8 * ((4 * k + 2) % 4) = 8 by omega, ← h2] at e2
  rw [show (4 * k + 3) / 4 = k by omega, show 24 - 8 * ((4 * k + 3) % 4) = 0 by omega, ← h3] at e3
  unfold outL
  rw [hL 31 (by omega), hL 33 (by omega), hL 35 (by omega), hL 37 (by omega)]
  show ((((outB F (4 * k) ++ List.replicate (32 - 4 * k) 0).set (4 * k) x0).set (4 * k + 1) x1).set (4 * k + 2) x2).set (4 * k + 3) x3 = _
  rw [outB_set F (4 * k) (by omega) x0 e0, outB_set F (4 * k + 1) (by omega) x1 e1, outB_set F (4 * k + 2) (by omega) x2 e2, outB_set F (4 * k + 3) (by omega) x3 e3]
  rfl
theorem out_byte0 (X : W32) (e : Nat) (m : Nat) (hm : m = 2 ^ e) : ∃ x : UInt8, Hid ((X.toNat : Int) / (m : Int) % 256 = (x.toNat : Int)) ∧ Hid (x = UInt8.ofNat (X.toNat / 2 ^ e)) := by
  subst hm
  obtain ⟨x, h1, h2⟩ := out_byte X e
  refine ⟨x, ?_, h2⟩
  show _ = _
  rw [← h1, Int.natCast_pow]
  rfl
def outSs (g4 g7 k : Nat) (X : W32) (x0 x1 x2 x3 : UInt8) : List SPred :=
  [IsL (.int .i64 (k : Int)), IsL (.int .i64 (4 * (k : Int))), IsL (.int .i64 (k : Int)), IsL (.int .i64 (4 * (k : Int))), IsL (.int .i64 (4 * (k : Int) + 1)), IsL (.int .i64 (k : Int)), IsL (.int .i64 (4 * (k : Int))), IsL (.int .i64 (4 * (k : Int) + 2)), IsL (.int .i64 (k : Int)), IsL (.int .i64 (4 * (k : Int))), IsL (.int .i64 (4 * (k : Int) + 3)), IsL (.int .i64 (k : Int)), IsL (.pointer (some ⟨g4, k, none⟩)), IsL (.int .u32 (X.toNat : Int)), IsL (.int .u32 ((X.toNat : Int) / 16777216)), IsL (.int .u8 (x0.toNat : Int)), IsL (.int .i64 (k : Int)), IsL (.pointer (some ⟨g4, k, none⟩)), IsL (.int .u32 (X.toNat : Int)), IsL (.int .u32 ((X.toNat : Int) / 65536)), IsL (.int .u8 (x1.toNat : Int)), IsL (.int .i64 (k : Int)), IsL (.pointer (some ⟨g4, k, none⟩)), IsL (.int .u32 (X.toNat : Int)), IsL (.int .u32 ((X.toNat : Int) / 256)), IsL (.int .u8 (x2.toNat : Int)), IsL (.int .i64 (k : Int)), IsL (.pointer (some ⟨g4, k, none⟩)), IsL (.int .u32 (X.toNat : Int)), IsL (.int .u8 (x3.toNat : Int)), IsL (.pointer (some ⟨g7, 4 * k, none⟩)), fun _ _ _ => True, IsL (.pointer (some ⟨g7, 4 * k + 1, none⟩)), fun _ _ _ => True, IsL (.pointer (some ⟨g7, 4 * k + 2, none⟩)), fun _ _ _ => True, IsL (.pointer (some ⟨g7, 4 * k + 3, none⟩)), fun _ _ _ => True]
theorem outSs_mono (g4 g7 k : Nat) (X : W32) (x0 x1 x2 x3 : UInt8) : MonoAllL (outSs g4 g7 k X x0 x1 x2 x3) := ⟨mono_isL _, mono_isL _, mono_isL _, mono_isL _, mono_isL _, mono_isL _, mono_isL _, mono_isL _, mono_isL _, mono_isL _, mono_isL _, mono_isL _, mono_isL _, mono_isL _, mono_isL _, mono_isL _, mono_isL _, mono_isL _, mono_isL _, mono_isL _, mono_isL _, mono_isL _, mono_isL _, mono_isL _, mono_isL _, mono_isL _, mono_isL _, mono_isL _, mono_isL _, mono_isL _, mono_isL _, mono_trueL, mono_isL _, mono_trueL, mono_isL _, mono_trueL, mono_isL _, mono_trueL, trivial⟩
theorem outSs_pres (g4 g7 k : Nat) (X : W32) (x0 x1 x2 x3 : UInt8) (L : Nat → Bool) (i : Nat) (W W' : World) : Pres L i W W' 0 (outSs g4 g7 k X x0 x1 x2 x3) :=
  ⟨fun _ _ _ h => h, fun _ _ _ h => h, fun _ _ _ h => h, fun _ _ _ h => h, fun _ _ _ h => h, fun _ _ _ h => h, fun _ _ _ h => h, fun _ _ _ h => h, fun _ _ _ h => h, fun _ _ _ h => h, fun _ _ _ h => h, fun _ _ _ h => h, fun _ _ _ h => h, fun _ _ _ h => h, fun _ _ _ h => h, fun _ _ _ h => h, fun _ _ _ h => h, fun _ _ _ h => h, fun _ _ _ h => h, fun _ _ _ h => h, fun _ _ _ h => h, fun _ _ _ h => h, fun _ _ _ h => h, fun _ _ _ h => h, fun _ _ _ h => h, fun _ _ _ h => h, fun _ _ _ h => h, fun _ _ _ h => h, fun _ _ _ h => h, fun _ _ _ h => h, fun _ _ _ h => h, fun _ _ _ h => h, fun _ _ _ h => h, fun _ _ _ h => h, fun _ _ _ h => h, fun _ _ _ h => h, fun _ _ _ h => h, fun _ _ _ h => h, trivial⟩
end Go.Proofs.Ytkncomkncfcecaa
set_option linter.unusedVariables false
set_option linter.unusedSimpArgs false
namespace Go.Proofs.Ytkncomkncfcecaa
open Go.RowKit

theorem st8Info : (Try.prog.info? 83).map (·.size) = some 8 := by kernel_rfl
theorem st8Under : Try.prog.underlying 83 = some (.array 8 80) := by kernel_rfl
theorem st8Zero : (Try.prog.info? 83).bind (·.zero) = some (.agg (wv z8).toArray) := zero_of z8 (by kernel_rfl)
theorem infoR (L : List W32) (h : L.length = 8) : (Try.prog.info? 83).map (·.size) = some (wv L).toArray.size := by rw [st8Info, size_wv, h]
theorem len_byteR (N i : Nat) : ∃ x : UInt8, (N : Int) * 8 / 2 ^ (8 * i) % 256 = (x.toNat : Int) ∧ x = UInt8.ofNat (N * 8 / 2 ^ (8 * i)) := by
  refine ⟨_, ?_, rfl⟩
  rw [UInt8.toNat_ofNat']
  generalize 8 * i = e
  rw [Int.natCast_emod, Int.natCast_ediv, Int.natCast_mul, Int.natCast_pow]
  rfl
theorem piece_get (P : List UInt8) (a t : Nat) (ht : t < 64) : ((P.drop a).take 64).getD t 0 = P.getD (a + t) 0 := by
  rw [List.getD_eq_getElem?_getD, List.getD_eq_getElem?_getD, List.getElem?_take, if_pos ht, List.getElem?_drop]
theorem be32_piece (P : List UInt8) (a q : Nat) (hq : q + 3 < 64) : be32 ((P.drop a).take 64) q = be4 (P.getD (a + q) 0) (P.getD (a + q + 1) 0) (P.getD (a + q + 2) 0) (P.getD (a + q + 3) 0) := by
  unfold be32
  rw [piece_get _ _ _ (by omega), piece_get _ _ _ (by omega), piece_get _ _ _ (by omega), piece_get _ _ _ (by omega)]
  rfl
theorem wl_setR (l : List UInt8) (k : Nat) (hk : k < 64) (W : List W32) (hW : W.length = 64) (x : W32) (hx : wl l (k + 1) = wl l k ++ [x]) : (wl l k ++ W.drop k).set k x = wl l (k + 1) ++ W.drop (k + 1) := by
  rw [wl_set l k hk (W.drop k) (by rw [List.length_drop, hW]) x hx, List.tail_drop]
theorem addW_allR (s t : ShaSt) : addW s.words t.words 8 = (addSt s t).words := by
  unfold addSt addW ShaSt.words
  simp [BitVec.add_comm]

theorem shaX_code2 (t : ShaSt) (k w : W32) : (((t.h.toNat : Int) + bits .xor .u32 (bits .xor .u32 ((ror t.e 6).toNat : Int) ((ror t.e 11).toNat : Int)) ((ror t.e 25).toNat : Int) +
    bits .xor .u32 (bits .and .u32 (t.e.toNat : Int) (t.f.toNat : Int)) (bits .and .u32 (bits .xor .u32 (if IntKind.u32.signed = true then -1 else IntKind.u32.max) (t.e.toNat : Int)) (t.g.toNat : Int)) + (k.toNat : Int)) % 4294967296 + (w.toNat : Int)) % 4294967296 = ((shaX t k w).toNat : Int) := by
  rw [not_code, u32_xor_bv, u32_xor_bv, u32_and_bv, u32_and_bv, u32_xor_bv, add4_code, add_code']
  rfl
theorem shaY_code2 (t : ShaSt) : (bits .xor .u32 (bits .xor .u32 ((ror t.a 2).toNat : Int) ((ror t.a 13).toNat : Int)) ((ror t.a 22).toNat : Int) +
    bits .xor .u32 (bits .xor .u32 (bits .and .u32 (t.a.toNat : Int) (t.b.toNat : Int)) (bits .and .u32 (t.a.toNat : Int) (t.c.toNat : Int))) (bits .and .u32 (t.b.toNat : Int) (t.c.toNat : Int))) % 4294967296 = ((shaY t).toNat : Int) := by
  rw [u32_xor_bv, u32_xor_bv, u32_and_bv, u32_and_bv, u32_and_bv, u32_xor_bv, u32_xor_bv, add_code']
  rfl

/-- memory on its way: the text's pieces P at b, the sum's words S, the words W of the piece -/
structure Sh (w : World) (b o q : Nat) (P : List UInt8) (g2 g3 g4 g8 : Nat) (S W : List W32) (wr : World) : Prop where
  B : Bs wr (some ⟨b, o, none⟩) q P
  below : Below w.heap.size w wr
  h2 : wr.heap[g2]? = some (.cells (bv z32).toArray 29 (0, 0))
  h3 : wr.heap[g3]? = some (.cells (wv ks).toArray 81 (0, 0))
  h4 : wr.heap[g4]? = some (.cells (wv S).toArray 83 (0, 0))
  h8 : wr.heap[g8]? = some (.cells (wv W).toArray 81 (0, 0))
structure Ap (w : World) (b g2 g3 g4 g8 : Nat) : Prop where
  n23 : g2 ≠ g3
  n24 : g2 ≠ g4
  n28 : g2 ≠ g8
  n34 : g3 ≠ g4
  n38 : g3 ≠ g8
  n48 : g4 ≠ g8
  b2 : b ≠ g2
  b3 : b ≠ g3
  b4 : b ≠ g4
  b8 : b ≠ g8
  w2 : w.heap.size ≤ g2
  w4 : w.heap.size ≤ g4
  w8 : w.heap.size ≤ g8
section
variable {w wr W' : World} {b o q : Nat} {P : List UInt8} {g2 g3 g4 g8 : Nat} {S W : List W32}
theorem lt_of_at {w : World} {g : Nat} {x : Obj} (h : w.heap[g]? = some x) : g < w.heap.size := (Array.getElem?_eq_some_iff.1 h).1
theorem Sh.next (h : Sh w b o q P g2 g3 g4 g8 S W wr) (hb : Below wr.heap.size wr W') : Sh w b o q P g2 g3 g4 g8 S W W' where
  B := h.B.keep (.of_below hb)
  below := below_then h.below hb h.below.size
  h2 := by rw [hb.block _ (lt_of_at h.h2)]; exact h.h2
  h3 := by rw [hb.block _ (lt_of_at h.h3)]; exact h.h3
  h4 := by rw [hb.block _ (lt_of_at h.h4)]; exact h.h4
  h8 := by rw [hb.block _ (lt_of_at h.h8)]; exact h.h8
theorem Sh.set8 (h : Sh w b o q P g2 g3 g4 g8 S W wr) (a : Ap w b g2 g3 g4 g8) (k : Nat) (x : W32) : Sh w b o q P g2 g3 g4 g8 S (W.set k x) (wr.setCell ⟨g8, k, none⟩ (.int .u32 (x.toNat : Int))) where
  B := Vs.far h.B (fun b' o' e => by injection e with e; injection e with e; subst e; exact a.b8) _
  below := h.below.setCell a.w8 _
  h2 := by rw [Below.heap_setCell _ _ _ _ a.n28]; exact h.h2
  h3 := by rw [Below.heap_setCell _ _ _ _ a.n38]; exact h.h3
  h4 := by rw [Below.heap_setCell _ _ _ _ a.n48]; exact h.h4
  h8 := wv_setCell h.h8 k x
theorem Sh.set4 (h : Sh w b o q P g2 g3 g4 g8 S W wr) (a : Ap w b g2 g3 g4 g8) (k : Nat) (x : W32) : Sh w b o q P g2 g3 g4 g8 (S.set k x) W (wr.setCell ⟨g4, k, none⟩ (.int .u32 (x.toNat : Int))) where
  B := Vs.far h.B (fun b' o' e => by injection e with e; injection e with e; subst e; exact a.b4) _
  below := h.below.setCell a.w4 _
  h2 := by rw [Below.heap_setCell _ _ _ _ a.n24]; exact h.h2
  h3 := by rw [Below.heap_setCell _ _ _ _ a.n34]; exact h.h3
  h4 := wv_setCell h.h4 k x
  h8 := by rw [Below.heap_setCell _ _ _ _ (Ne.symm a.n48)]; exact h.h8
structure A15 (w : World) (b g2 g3 g4 g8 g15 : Nat) : Prop where
  n2 : g2 ≠ g15
  n3 : g3 ≠ g15
  n4 : g4 ≠ g15
  n8 : g8 ≠ g15
  nb : b ≠ g15
  w15 : w.heap.size ≤ g15
theorem Sh.row15 {g15 : Nat} (h : Sh w b o q P g2 g3 g4 g8 S W wr) (a : A15 w b g2 g3 g4 g8 g15) (cs : Array Value) : Sh w b o q P g2 g3 g4 g8 S W (wr.setRow g15 cs) where
  B := Vs.setRow h.B (fun b' o' e => by injection e with e; injection e with e; subst e; exact a.nb) _
  below := below_setRow h.below a.w15 _
  h2 := by rw [setRow_other _ _ _ _ a.n2]; exact h.h2
  h3 := by rw [setRow_other _ _ _ _ a.n3]; exact h.h3
  h4 := by rw [setRow_other _ _ _ _ a.n4]; exact h.h4
  h8 := by rw [setRow_other _ _ _ _ a.n8]; exact h.h8
end
end Go.Proofs.Ytkncomkncfcecaa
set_option linter.unusedVariables false
set_option linter.unusedSimpArgs false
namespace Go.Proofs.Ytkncomkncfcecaa
open Go.RowKit
attribute [local go_sem] ev_tmp ev_const ev_func ev_global lk_hit lk_miss uponK_value uponK_skip look_tmp look_const look_global look_func
set_option maxRecDepth 100000 in
set_option maxHeartbeats 1600000 in
theorem rs_loop4 {Q : Exit → Act → World → Prop} {w wr : World} {b o q c5 p j g2 g3 g4 g8 : Nat} {P B : List UInt8} {S W : List W32} (ha : Ap w b g2 g3 g4 g8) (hq47 : q ≤ 1099511627776 + 72) (hqc : q ≤ c5) (hc5 : c5 ≤ 9223372036854775807) (hpq : p + 64 ≤ q) (HP64 : Hid (p = 64 * j)) (HB : Hid ((P.drop (64 * j)).take 64 = B)) (hW : Hid (W.length = 64))
    (h : Sh w b o q P g2 g3 g4 g8 S W wr) (hQ : ∀ wr', Sh w b o q P g2 g3 g4 g8 S (wl B 16 ++ W.drop 16) wr' → KQ Q .normal 278 [(2, .pointer (some ⟨g2, 0, none⟩)), (3, .pointer (some ⟨g3, 0, none⟩)), (4, .pointer (some ⟨g4, 0, none⟩)), (5, .slice (some ⟨b, o, none⟩) q c5), (8, .pointer (some ⟨g8, 0, none⟩)), (9, .int .i64 (p : Int))] wr') :
    KW Try.prog (blockOf Try.f18 6) Q 278 [(2, .pointer (some ⟨g2, 0, none⟩)), (3, .pointer (some ⟨g3, 0, none⟩)), (4, .pointer (some ⟨g4, 0, none⟩)), (5, .slice (some ⟨b, o, none⟩) q c5), (8, .pointer (some ⟨g8, 0, none⟩)), (9, .int .i64 (p : Int)), (10, .int .i64 0)] wr := by
  conv => arg 2; whnf
  have HQ := Lib.hid hQ
  clear hQ
  refine kw_block ?_
  refine kw_loop (fun m L wr => ∃ k, k ≤ 16 ∧ m = 16 - k ∧ L = [(2, .pointer (some ⟨g2, 0, none⟩)), (3, .pointer (some ⟨g3, 0, none⟩)), (4, .pointer (some ⟨g4, 0, none⟩)), (5, .slice (some ⟨b, o, none⟩) q c5), (8, .pointer (some ⟨g8, 0, none⟩)), (9, .int .i64 (p : Int)), (10, .int .i64 (k : Int))] ∧ Sh w b o q P g2 g3 g4 g8 S (wl B k ++ W.drop k) wr) ⟨0, by omega, rfl, rfl, h⟩ ?_
  clear h wr
  rintro m L wr ⟨k, hk, rfl, rfl, h⟩
  have HS := Lib.hid h
  by_cases hlt4 : k < 16
  · have hk1 : (k : Int) < 16 := by omega
    have hk64 : (k : Int) < 64 := by omega
    have hk0 : (0 : Int) ≤ k := by omega
    obtain ⟨s, hs⟩ : ∃ s, p + 4 * k = s := ⟨_, rfl⟩
    have e0 : IntKind.i64.wrap (4 * (k : Int)) = 4 * k := IntWalk.i64_in _ (by omega)
    have es : (p : Int) + 4 * k = s := by omega
    have e1 : IntKind.i64.wrap ((p : Int) + 4 * k) = s := by rw [es]; exact IntWalk.i64_in _ (by omega)
    have f1 : IntKind.i64.wrap ((s : Int) + 1) = s + 1 := IntWalk.i64_in _ (by omega)
    have f2 : IntKind.i64.wrap ((s : Int) + 2) = s + 2 := IntWalk.i64_in _ (by omega)
    have f3 : IntKind.i64.wrap ((s : Int) + 3) = s + 3 := IntWalk.i64_in _ (by omega)
    have t1 : ((s : Int) + 1).toNat = s + 1 := by omega
    have t2 : ((s : Int) + 2).toNat = s + 2 := by omega
    have t3 : ((s : Int) + 3).toNat = s + 3 := by omega
    have i0 : (s : Int) < q := by omega
    have i1 : (s : Int) + 1 < q := by omega
    have i2 : (s : Int) + 2 < q := by omega
    have i3 : (s : Int) + 3 < q := by omega
    have j0 : 0 ≤ (s : Int) := by omega
    have j1 : 0 ≤ (s : Int) + 1 := by omega
    have j2 : 0 ≤ (s : Int) + 2 := by omega
    have j3 : 0 ≤ (s : Int) + 3 := by omega
    obtain ⟨x0, hx0, c0⟩ := byte_at h.B (show s < q by omega)
    obtain ⟨x1, hx1, c1⟩ := byte_at h.B (show s + 1 < q by omega)
    obtain ⟨x2, hx2, c2⟩ := byte_at h.B (show s + 2 < q by omega)
    obtain ⟨x3, hx3, c3⟩ := byte_at h.B (show s + 3 < q by omega)
    have E1 := Lib.hid (be4_code x0 x1 x2 x3)
    have E2 : be4 x0 x1 x2 x3 = be32 B (4 * k) := by
      rw [← HB.out, be32_piece _ _ _ (by omega), ← HP64.out, hs, hx0.out, hx1.out, hx2.out, hx3.out]
    have E2 := Lib.hid E2
    clear hs hx0 hx1 hx2 hx3 h
    repeat (first | refine kw_seq ?_ | refine kw_block ?_ | refine kw_skip ?_ | refine kw_region ?_ | refine kl_nil ?_ | refine kq_then ?_ | refine kq_block ?_ | refine kw_exit ?_ | refine kq_then_exit ?_ | refine kq_block_here rfl ?_ | refine kq_block_far rfl ?_ | refine kq_again_exit ?_ | refine kw_ret ?_ | refine kq_then_ret ?_ | refine kq_block_ret ?_ | refine kq_again_ret ?_ | refine kw_ift rfl ?_ | refine kw_iff rfl ?_ | refine kl_ung rfl rfl ?_ | refine kl_skipg rfl rfl rfl rfl ?_ | refine kl_skipg0 rfl rfl rfl ?_ | (first | refine kl_move rfl rfl (.inl rfl) rfl rfl ?_ | refine kl_move rfl rfl (.inr rfl) rfl rfl ?_ | refine kl_const rfl rfl (.inl rfl) rfl ?_ | refine kl_const rfl rfl (.inr rfl) rfl ?_) | ((first | refine kl_step rfl rfl rfl fun K hK => ?_ | refine kl_step0 rfl rfl rfl fun K hK => ?_); go_simp; (try go_bits); (first | refine hK _ _ ?_ | refine hK _ ?_); clear hK K))
    refine KW.less [2, 3, 4, 5, 8, 9, 10, 11] ?_
    simp only [nrm, lk, Nat.reduceBEq, cond_true, cond_false]
    refine kw_region_xt 31 [none, none, none, none, none, none, none, none, none, none, none, none, none, none, none, none, none, none, none, none, none, none, none, none, none, none, none, none, none, none, none]
      [[(10, none)], [(5, none)], [(11, none)], [(70, some 1), (71, some 2)], [(72, some 3)], [(73, some 4)], [(74, some 5)], [(5, none)], [(11, none)], [(77, some 8)], [(76, some 7), (78, some 9)], [(79, some 10)], [(80, some 11)], [(81, some 12)], [(75, some 6), (82, some 13)], [(5, none)], [(11, none)], [(85, some 16)], [(84, some 15), (86, some 17)], [(87, some 18)], [(88, some 19)], [(89, some 20)], [(83, some 14), (90, some 21)], [(5, none)], [(11, none)], [(93, some 24)], [(92, some 23), (94, some 25)], [(95, some 26)], [(96, some 27)], [(91, some 22), (97, some 28)], [(8, none), (69, some 0)]]
      [2, 3, 4, 5, 8, 9, 10] (by kernel_rfl) (by kernel_rfl) (by kernel_rfl) (by kernel_rfl) (by kernel_rfl)
      trivial ?_
    repeat (first | apply exs_none | apply exs_some)
    refine exs_nil (And.intro ?v1_vc ?v1_fin)
    case v1_vc =>
      refine ⟨?_, ?_, ?_, ?_, ?_, ?_, ?_, ?_, ?_, ?_, ?_, ?_, ?_, ?_, ?_, ?_, ?_, ?_, ?_, ?_, ?_, ?_, ?_, ?_, ?_, ?_, ?_, ?_, ?_, ?_, ?_, trivial⟩
      · exact vk_mov rfl (.inl rfl) fun A W _ h => h.1 _ rfl
      · exact vk_mov rfl (.inl rfl) fun A W _ h => h.1 _ rfl
      · exact vk_mov rfl (.inl rfl) fun A W _ h => h.1 _ rfl
      · refine vk_none rfl fun A W hR h N hN => ?_
        refine vk_of N ?_
        obtain ⟨h70, h71, _⟩ := h
        replace h70 : A.tmps[70]?.getD undef = _ := h70
        replace h71 : A.tmps[71]?.getD undef = _ := h71
        go_simp
        (try go_bits)
        exact hN _ _ (Below.refl _ _) rfl
      · refine vk_none rfl fun A W hR h N hN => ?_
        refine vk_of N ?_
        obtain ⟨h72, _⟩ := h
        replace h72 : A.tmps[72]?.getD undef = _ := h72
        have c0 := Keeps.of_below hR _ _ c0
        have c1 := Keeps.of_below hR _ _ c1
        have c2 := Keeps.of_below hR _ _ c2
        have c3 := Keeps.of_below hR _ _ c3
        go_simp
        (try go_bits)
        exact hN _ _ (Below.refl _ _) rfl
      · refine vk_none rfl fun A W hR h N hN => ?_
        refine vk_of N ?_
        obtain ⟨h73, _⟩ := h
        replace h73 : A.tmps[73]?.getD undef = _ := h73
        go_simp
        (try go_bits)
        exact hN _ _ (Below.refl _ _) rfl
      · refine vk_none rfl fun A W hR h N hN => ?_
        refine vk_of N ?_
        obtain ⟨h74, _⟩ := h
        replace h74 : A.tmps[74]?.getD undef = _ := h74
        go_simp
        (try go_bits)
        exact hN _ _ (Below.refl _ _) rfl
      · exact vk_mov rfl (.inl rfl) fun A W _ h => h.1 _ rfl
      · exact vk_mov rfl (.inl rfl) fun A W _ h => h.1 _ rfl
      · refine vk_none rfl fun A W hR h N hN => ?_
        refine vk_of N ?_
        obtain ⟨h77, _⟩ := h
        replace h77 : A.tmps[77]?.getD undef = _ := h77
        go_simp
        (try go_bits)
        exact hN _ _ (Below.refl _ _) rfl
      · refine vk_none rfl fun A W hR h N hN => ?_
        refine vk_of N ?_
        obtain ⟨h76, h78, _⟩ := h
        replace h76 : A.tmps[76]?.getD undef = _ := h76
        replace h78 : A.tmps[78]?.getD undef = _ := h78
        go_simp
        (try go_bits)
        exact hN _ _ (Below.refl _ _) rfl
      · refine vk_none rfl fun A W hR h N hN => ?_
        refine vk_of N ?_
        obtain ⟨h79, _⟩ := h
        replace h79 : A.tmps[79]?.getD undef = _ := h79
        have c0 := Keeps.of_below hR _ _ c0
        have c1 := Keeps.of_below hR _ _ c1
        have c2 := Keeps.of_below hR _ _ c2
        have c3 := Keeps.of_below hR _ _ c3
        go_simp
        (try go_bits)
        exact hN _ _ (Below.refl _ _) rfl
      · refine vk_none rfl fun A W hR h N hN => ?_
        refine vk_of N ?_
        obtain ⟨h80, _⟩ := h
        replace h80 : A.tmps[80]?.getD undef = _ := h80
        go_simp
        (try go_bits)
        exact hN _ _ (Below.refl _ _) rfl
      · refine vk_none rfl fun A W hR h N hN => ?_
        refine vk_of N ?_
        obtain ⟨h81, _⟩ := h
        replace h81 : A.tmps[81]?.getD undef = _ := h81
        go_simp
        (try go_bits)
        exact hN _ _ (Below.refl _ _) rfl
      · refine vk_none rfl fun A W hR h N hN => ?_
        refine vk_of N ?_
        obtain ⟨h75, h82, _⟩ := h
        replace h75 : A.tmps[75]?.getD undef = _ := h75
        replace h82 : A.tmps[82]?.getD undef = _ := h82
        go_simp
        (try go_bits)
        exact hN _ _ (Below.refl _ _) rfl
      · exact vk_mov rfl (.inl rfl) fun A W _ h => h.1 _ rfl
      · exact vk_mov rfl (.inl rfl) fun A W _ h => h.1 _ rfl
      · refine vk_none rfl fun A W hR h N hN => ?_
        refine vk_of N ?_
        obtain ⟨h85, _⟩ := h
        replace h85 : A.tmps[85]?.getD undef = _ := h85
        go_simp
        (try go_bits)
        exact hN _ _ (Below.refl _ _) rfl
      · refine vk_none rfl fun A W hR h N hN => ?_
        refine vk_of N ?_
        obtain ⟨h84, h86, _⟩ := h
        replace h84 : A.tmps[84]?.getD undef = _ := h84
        replace h86 : A.tmps[86]?.getD undef = _ := h86
        go_simp
        (try go_bits)
        exact hN _ _ (Below.refl _ _) rfl
      · refine vk_none rfl fun A W hR h N hN => ?_
        refine vk_of N ?_
        obtain ⟨h87, _⟩ := h
        replace h87 : A.tmps[87]?.getD undef = _ := h87
        have c0 := Keeps.of_below hR _ _ c0
        have c1 := Keeps.of_below hR _ _ c1
        have c2 := Keeps.of_below hR _ _ c2
        have c3 := Keeps.of_below hR _ _ c3
        go_simp
        (try go_bits)
        exact hN _ _ (Below.refl _ _) rfl
      · refine vk_none rfl fun A W hR h N hN => ?_
        refine vk_of N ?_
        obtain ⟨h88, _⟩ := h
        replace h88 : A.tmps[88]?.getD undef = _ := h88
        go_simp
        (try go_bits)
        exact hN _ _ (Below.refl _ _) rfl
      · refine vk_none rfl fun A W hR h N hN => ?_
        refine vk_of N ?_
        obtain ⟨h89, _⟩ := h
        replace h89 : A.tmps[89]?.getD undef = _ := h89
        go_simp
        (try go_bits)
        exact hN _ _ (Below.refl _ _) rfl
      · refine vk_none rfl fun A W hR h N hN => ?_
        refine vk_of N ?_
        obtain ⟨h83, h90, _⟩ := h
        replace h83 : A.tmps[83]?.getD undef = _ := h83
        replace h90 : A.tmps[90]?.getD undef = _ := h90
        go_simp
        (try go_bits)
        exact hN _ _ (Below.refl _ _) rfl
      · exact vk_mov rfl (.inl rfl) fun A W _ h => h.1 _ rfl
      · exact vk_mov rfl (.inl rfl) fun A W _ h => h.1 _ rfl
      · refine vk_none rfl fun A W hR h N hN => ?_
        refine vk_of N ?_
        obtain ⟨h93, _⟩ := h
        replace h93 : A.tmps[93]?.getD undef = _ := h93
        go_simp
        (try go_bits)
        exact hN _ _ (Below.refl _ _) rfl
      · refine vk_none rfl fun A W hR h N hN => ?_
        refine vk_of N ?_
        obtain ⟨h92, h94, _⟩ := h
        replace h92 : A.tmps[92]?.getD undef = _ := h92
        replace h94 : A.tmps[94]?.getD undef = _ := h94
        go_simp
        (try go_bits)
        exact hN _ _ (Below.refl _ _) rfl
      · refine vk_none rfl fun A W hR h N hN => ?_
        refine vk_of N ?_
        obtain ⟨h95, _⟩ := h
        replace h95 : A.tmps[95]?.getD undef = _ := h95
        have c0 := Keeps.of_below hR _ _ c0
        have c1 := Keeps.of_below hR _ _ c1
        have c2 := Keeps.of_below hR _ _ c2
        have c3 := Keeps.of_below hR _ _ c3
        go_simp
        (try go_bits)
        exact hN _ _ (Below.refl _ _) rfl
      · refine vk_none rfl fun A W hR h N hN => ?_
        refine vk_of N ?_
        obtain ⟨h96, _⟩ := h
        replace h96 : A.tmps[96]?.getD undef = _ := h96
        go_simp
        (try go_bits)
        exact hN _ _ (Below.refl _ _) rfl
      · refine vk_none rfl fun A W hR h N hN => ?_
        refine vk_of N ?_
        obtain ⟨h91, h97, _⟩ := h
        replace h91 : A.tmps[91]?.getD undef = _ := h91
        replace h97 : A.tmps[97]?.getD undef = _ := h97
        go_simp
        (try go_bits)
        exact hN _ _ (Below.refl _ _) rfl
      · refine vk_none rfl fun A W hR h N hN => ?_
        refine vk_of N ?_
        obtain ⟨h8, h69, _⟩ := h
        have h8 := h8 _ rfl
        replace h69 : A.tmps[69]?.getD undef = _ := h69
        go_simp
        (try go_bits)
        exact hN _ _ (Below.refl _ _) rfl
    case v1_fin =>
      intro fa fW fk hR he
      have e0 := he.1
      have e29 := he.2.2.2.2.2.2.2.2.2.2.2.2.2.2.2.2.2.2.2.2.2.2.2.2.2.2.2.2.2.1
      have e30 := he.2.2.2.2.2.2.2.2.2.2.2.2.2.2.2.2.2.2.2.2.2.2.2.2.2.2.2.2.2.2.1
      clear he
      replace e0 : fa.tmps[69]?.getD undef = _ := e0
      replace fk := fk.more 69 _ e0
      clear e0
      replace e29 : fa.tmps[98]?.getD undef = _ := e29
      replace fk := fk.more 98 _ e29
      clear e29
      replace e30 : fa.tmps[99]?.getD undef = _ := e30
      replace fk := fk.more 99 _ e30
      clear e30
      have h := HS.out.next hR
      clear HS c0 c1 c2 c3 e0 e1 es f1 f2 f3 t1 t2 t3 i0 i1 i2 i3 j0 j1 j2 j3
      have d1 : fW.cell? ⟨g8, k, none⟩ = some (.int .u32 (((wl B k ++ W.drop k).getD k 0).toNat : Int)) := wv_cell h.h8 (by rw [List.length_append, length_wl, List.length_drop, hW.out]; omega)
      have f8 : fW.frozen? ⟨g8, k, none⟩ = false := free_of_block h.h8
      have HS := Lib.hid h
      clear h hR
      refine kl_of _ _ ?_ fk
      clear fk fa
      simp only [nrm, lk, Nat.reduceBEq, cond_true, cond_false, List.take_succ_cons, List.take_zero, List.drop_succ_cons, List.drop_zero]
      repeat (first | refine kw_seq ?_ | refine kw_block ?_ | refine kw_skip ?_ | refine kw_region ?_ | refine kl_nil ?_ | refine kq_then ?_ | refine kq_block ?_ | refine kw_exit ?_ | refine kq_then_exit ?_ | refine kq_block_here rfl ?_ | refine kq_block_far rfl ?_ | refine kq_again_exit ?_ | refine kw_ret ?_ | refine kq_then_ret ?_ | refine kq_block_ret ?_ | refine kq_again_ret ?_ | refine kw_ift rfl ?_ | refine kw_iff rfl ?_ | refine kl_ung rfl rfl ?_ | refine kl_skipg rfl rfl rfl rfl ?_ | refine kl_skipg0 rfl rfl rfl ?_ | (first | refine kl_move rfl rfl (.inl rfl) rfl rfl ?_ | refine kl_move rfl rfl (.inr rfl) rfl rfl ?_ | refine kl_const rfl rfl (.inl rfl) rfl ?_ | refine kl_const rfl rfl (.inr rfl) rfl ?_) | ((first | refine kl_step rfl rfl rfl fun K hK => ?_ | refine kl_step0 rfl rfl rfl fun K hK => ?_); go_simp; (try go_bits); (first | refine hK _ _ ?_ | refine hK _ ?_); clear hK K))
      refine kq_again (16 - (k + 1)) [2, 3, 4, 5, 8, 9, 10] (by omega) ?_
      simp only [nrm, lk, Nat.reduceBEq, cond_true, cond_false]
      refine ⟨k + 1, by omega, rfl, by congr 1, ?_⟩
      rw [E1.out, E2.out, ← wl_setR B k (by omega) W hW.out _ (wl_low B k hlt4)]
      exact HS.out.set8 ha k _
  · obtain rfl : k = 16 := by omega
    clear h
    repeat (first | refine kw_seq ?_ | refine kw_block ?_ | refine kw_skip ?_ | refine kw_region ?_ | refine kl_nil ?_ | refine kq_then ?_ | refine kq_block ?_ | refine kw_exit ?_ | refine kq_then_exit ?_ | refine kq_block_here rfl ?_ | refine kq_block_far rfl ?_ | refine kq_again_exit ?_ | refine kw_ret ?_ | refine kq_then_ret ?_ | refine kq_block_ret ?_ | refine kq_again_ret ?_ | refine kw_ift rfl ?_ | refine kw_iff rfl ?_ | refine kl_ung rfl rfl ?_ | refine kl_skipg rfl rfl rfl rfl ?_ | refine kl_skipg0 rfl rfl rfl ?_ | (first | refine kl_move rfl rfl (.inl rfl) rfl rfl ?_ | refine kl_move rfl rfl (.inr rfl) rfl rfl ?_ | refine kl_const rfl rfl (.inl rfl) rfl ?_ | refine kl_const rfl rfl (.inr rfl) rfl ?_) | ((first | refine kl_step rfl rfl rfl fun K hK => ?_ | refine kl_step0 rfl rfl rfl fun K hK => ?_); go_simp; (try go_bits); (first | refine hK _ _ ?_ | refine hK _ ?_); clear hK K))
    refine KQ.less [2, 3, 4, 5, 8, 9] ?_
    simp only [nrm, lk, Nat.reduceBEq, cond_true, cond_false]
    exact HQ.out _ HS.out
end Go.Proofs.Ytkncomkncfcecaa
