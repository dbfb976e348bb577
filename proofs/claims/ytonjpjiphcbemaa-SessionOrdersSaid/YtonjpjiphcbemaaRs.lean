/- The document's sum: memory on its way; pieces of its code. -/
import Derived.Test.YtonjpjiphcbemaaKnRow
import Derived.Test.YtonjpjiphcbemaaKnR
import Derived.Test.YtonjpjiphcbemaaShaOut
namespace Go.Proofs.Ytonjpjiphcbemaa
open Go.RowKit

theorem st8Info : (Try.prog.info? 78).map (·.size) = some 8 := by kernel_rfl
theorem st8Under : Try.prog.underlying 78 = some (.array 8 75) := by kernel_rfl
theorem st8Zero : (Try.prog.info? 78).bind (·.zero) = some (.agg (wv z8).toArray) := zero_of z8 (by kernel_rfl)
theorem infoR (L : List W32) (h : L.length = 8) : (Try.prog.info? 78).map (·.size) = some (wv L).toArray.size := by rw [st8Info, size_wv, h]
theorem len_byteR (N i : Nat) : ∃ x : UInt8, (N : Int) * 8 / 2 ^ (8 * i) % 256 = (x.toNat : Int) ∧ x = UInt8.ofNat (N * 8 / 2 ^ (8 * i)) := by
  refine ⟨_, ?_, rfl⟩
  rw [UInt8.toNat_ofNat']
  generalize 8 * i = e
  rw [Int.natCast_emod, Int.natCast_ediv, Int.natCast_mul, Int.natCast_pow]
  rfl
theorem piece_get (P : List UInt8) (a t : Nat) (ht : t < 64) : ((P.drop a).take 64).getD t 0 = P.getD (a + t) 0 := by
  rw [List.getD_eq_getElem?_getD, List.getD_eq_getElem?_getD, List.getElem?_take, if_pos ht, List.getElem?_drop]
theorem be32_piece (P : List UInt8) (a q : Nat) (hq : q + 3 < 64) : be32 ((P.drop a).take 64) q = be4 (P.getD (a + q) 0) (P.getD (a + q + 1) 0) (P.getD (a + q + 2) 0) (P.getD (a + q + 3) 0) := by
  unfold be32
  rw [piece_get _ _ _ (by omega), piece_get _ _ _ (by omega), piece_get _ _ _ (by omega), piece_get _ _ _ (by omega)]
  rfl
theorem wl_setR (l : List UInt8) (k : Nat) (hk : k < 64) (W : List W32) (hW : W.length = 64) (x : W32) (hx : wl l (k + 1) = wl l k ++ [x]) : (wl l k ++ W.drop k).set k x = wl l (k + 1) ++ W.drop (k + 1) := by
  rw [wl_set l k hk (W.drop k) (by rw [List.length_drop, hW]) x hx, List.tail_drop]
theorem addW_allR (s t : ShaSt) : addW s.words t.words 8 = (addSt s t).words := by
  unfold addSt addW ShaSt.words
  simp [BitVec.add_comm]

theorem shaX_code2 (t : ShaSt) (k w : W32) : (((t.h.toNat : Int) + bits .xor .u32 (bits .xor .u32 ((ror t.e 6).toNat : Int) ((ror t.e 11).toNat : Int)) ((ror t.e 25).toNat : Int) +
    bits .xor .u32 (bits .and .u32 (t.e.toNat : Int) (t.f.toNat : Int)) (bits .and .u32 (bits .xor .u32 (if IntKind.u32.signed = true then -1 else IntKind.u32.max) (t.e.toNat : Int)) (t.g.toNat : Int)) + (k.toNat : Int)) % 4294967296 + (w.toNat : Int)) % 4294967296 = ((shaX t k w).toNat : Int) := by
  rw [not_code, u32_xor_bv, u32_xor_bv, u32_and_bv, u32_and_bv, u32_xor_bv, add4_code, add_code']
  rfl
theorem shaY_code2 (t : ShaSt) : (bits .xor .u32 (bits .xor .u32 ((ror t.a 2).toNat : Int) ((ror t.a 13).toNat : Int)) ((ror t.a 22).toNat : Int) +
    bits .xor .u32 (bits .xor .u32 (bits .and .u32 (t.a.toNat : Int) (t.b.toNat : Int)) (bits .and .u32 (t.a.toNat : Int) (t.c.toNat : Int))) (bits .and .u32 (t.b.toNat : Int) (t.c.toNat : Int))) % 4294967296 = ((shaY t).toNat : Int) := by
  rw [u32_xor_bv, u32_xor_bv, u32_and_bv, u32_and_bv, u32_and_bv, u32_xor_bv, u32_xor_bv, add_code']
  rfl

/-- memory on its way: the text's pieces P at b, the sum's words S, the words W of the piece -/
structure Sh (w : World) (b o q : Nat) (P : List UInt8) (g2 g3 g4 g8 : Nat) (S W : List W32) (wr : World) : Prop where
  B : Bs wr (some ⟨b, o, none⟩) q P
  below : Below w.heap.size w wr
  h2 : wr.heap[g2]? = some (.cells (bv z32).toArray 27 (0, 0))
  h3 : wr.heap[g3]? = some (.cells (wv ks).toArray 76 (0, 0))
  h4 : wr.heap[g4]? = some (.cells (wv S).toArray 78 (0, 0))
  h8 : wr.heap[g8]? = some (.cells (wv W).toArray 76 (0, 0))
structure Ap (w : World) (b g2 g3 g4 g8 : Nat) : Prop where
  n23 : g2 ≠ g3
  n24 : g2 ≠ g4
  n28 : g2 ≠ g8
  n34 : g3 ≠ g4
  n38 : g3 ≠ g8
  n48 : g4 ≠ g8
  b2 : b ≠ g2
  b3 : b ≠ g3
  b4 : b ≠ g4
  b8 : b ≠ g8
  w2 : w.heap.size ≤ g2
  w4 : w.heap.size ≤ g4
  w8 : w.heap.size ≤ g8
section
variable {w wr W' : World} {b o q : Nat} {P : List UInt8} {g2 g3 g4 g8 : Nat} {S W : List W32}
theorem lt_of_at {w : World} {g : Nat} {x : Obj} (h : w.heap[g]? = some x) : g < w.heap.size := (Array.getElem?_eq_some_iff.1 h).1
theorem Sh.next (h : Sh w b o q P g2 g3 g4 g8 S W wr) (hb : Below wr.heap.size wr W') : Sh w b o q P g2 g3 g4 g8 S W W' where
  B := h.B.keep (.of_below hb)
  below := below_then h.below hb h.below.size
  h2 := by rw [hb.block _ (lt_of_at h.h2)]; exact h.h2
  h3 := by rw [hb.block _ (lt_of_at h.h3)]; exact h.h3
  h4 := by rw [hb.block _ (lt_of_at h.h4)]; exact h.h4
  h8 := by rw [hb.block _ (lt_of_at h.h8)]; exact h.h8
theorem Sh.set8 (h : Sh w b o q P g2 g3 g4 g8 S W wr) (a : Ap w b g2 g3 g4 g8) (k : Nat) (x : W32) : Sh w b o q P g2 g3 g4 g8 S (W.set k x) (wr.setCell ⟨g8, k, none⟩ (.int .u32 (x.toNat : Int))) where
  B := Vs.far h.B (fun b' o' e => by injection e with e; injection e with e; subst e; exact a.b8) _
  below := h.below.setCell a.w8 _
  h2 := by rw [Below.heap_setCell _ _ _ _ a.n28]; exact h.h2
  h3 := by rw [Below.heap_setCell _ _ _ _ a.n38]; exact h.h3
  h4 := by rw [Below.heap_setCell _ _ _ _ a.n48]; exact h.h4
  h8 := wv_setCell h.h8 k x
theorem Sh.set4 (h : Sh w b o q P g2 g3 g4 g8 S W wr) (a : Ap w b g2 g3 g4 g8) (k : Nat) (x : W32) : Sh w b o q P g2 g3 g4 g8 (S.set k x) W (wr.setCell ⟨g4, k, none⟩ (.int .u32 (x.toNat : Int))) where
  B := Vs.far h.B (fun b' o' e => by injection e with e; injection e with e; subst e; exact a.b4) _
  below := h.below.setCell a.w4 _
  h2 := by rw [Below.heap_setCell _ _ _ _ a.n24]; exact h.h2
  h3 := by rw [Below.heap_setCell _ _ _ _ a.n34]; exact h.h3
  h4 := wv_setCell h.h4 k x
  h8 := by rw [Below.heap_setCell _ _ _ _ (Ne.symm a.n48)]; exact h.h8
structure A15 (w : World) (b g2 g3 g4 g8 g15 : Nat) : Prop where
  n2 : g2 ≠ g15
  n3 : g3 ≠ g15
  n4 : g4 ≠ g15
  n8 : g8 ≠ g15
  nb : b ≠ g15
  w15 : w.heap.size ≤ g15
theorem Sh.row15 {g15 : Nat} (h : Sh w b o q P g2 g3 g4 g8 S W wr) (a : A15 w b g2 g3 g4 g8 g15) (cs : Array Value) : Sh w b o q P g2 g3 g4 g8 S W (wr.setRow g15 cs) where
  B := Vs.setRow h.B (fun b' o' e => by injection e with e; injection e with e; subst e; exact a.nb) _
  below := below_setRow h.below a.w15 _
  h2 := by rw [setRow_other _ _ _ _ a.n2]; exact h.h2
  h3 := by rw [setRow_other _ _ _ _ a.n3]; exact h.h3
  h4 := by rw [setRow_other _ _ _ _ a.n4]; exact h.h4
  h8 := by rw [setRow_other _ _ _ _ a.n8]; exact h.h8
end
end Go.Proofs.Ytonjpjiphcbemaa
