/- The sparse walk's laws for copy of elements of some cells, and for append of zero values that grows. No program in sight. -/
import Derived.Test.YtkncomkncfcecaaKnOps
import Derived.Laws.CopyRow
import Derived.Lib.AppendZerosOnto
set_option linter.unusedVariables false
set_option linter.unusedSimpArgs false
namespace Go.Proofs.Ytkncomkncfcecaa
open Go.RowKit
section
variable {P : Program}
theorem run_copy_rowN (w : World) (dT sT ty elem : TypeId) (sz g o dLen dCap : Nat) (a : Addr) (sLen sCap : Nat) (cur : Array Value) (t : TypeId) (cs : List Value)
    (hu : P.underlying dT = some (.slice elem)) (hs : (P.info? elem).map (·.size) = some sz)
    (hg : w.heap[g]? = some (.cells cur t (0, 0))) (hn : cs.length = Nat.min sLen dLen * sz)
    (hsrc : ∀ j v, cs[j]? = some v → w.cell? (a.add j) = some v) (hfit : o + cs.length ≤ cur.size) (h1 : ∀ v ∈ cs, v.oneCell' = true) :
    (Builtin.copy_ #[dT, sT] ty #[.slice (some ⟨g, o, none⟩) dLen dCap, .slice (some a) sLen sCap]).run P w =
      .ok (goInt (Nat.min sLen dLen)) (w.setRow g (cur.toList.take o ++ cs ++ cur.toList.drop (o + cs.length)).toArray) := by
  have hl := run_loadCells_list (P := P) w a cs hsrc
  have hst := run_storeCells_at P g o t cs 0 cur w hg (by simpa using hfit) h1
  cases hq : P.info? elem with
  | none => simp [hq] at hs
  | some i =>
    have hi : i.size = sz := by simpa [hq] using hs
    simp [Builtin.copy_, run_underlying hu, Builtin.lenOf, Builtin.firstCells, sizeOf, typeInfo, hq, hi, ← hn, hl, hst]
variable {Q : Exit → Act → World → Prop} {N : Nat} {L : Slots} {w : World} {ops : Array Oper} {rest : List Oper} {o : Oper}
theorem kl_copyN {d x y : Nat} (dT elem : TypeId) (sz g off dLen dCap g2 o2 sLen sCap : Nat) (cur : List Value) (t : TypeId) (cs : List Value)
    (hu : P.underlying dT = some (.slice elem)) (hs : (P.info? elem).map (·.size) = some sz) (hcur : w.heap[g]? = some (.cells cur.toArray t (0, 0))) (hn : cs.length = Nat.min sLen dLen * sz)
    (hsrc : w.rangeAt g2 o2 cs) (hfit : off + cs.length ≤ cur.length) (h1 : ∀ v ∈ cs, v.oneCell' = true)
    (hd : o.dst = some d) (hg : o.guard = none) (ho : o.op = .call { callee := .builtin .copy, args := #[.tmp x, .tmp y], argTypes := #[dT, dT] })
    (hx : lk L x = some (.slice (some ⟨g, off, none⟩) dLen dCap)) (hy : lk L y = some (.slice (some ⟨g2, o2, none⟩) sLen sCap)) (hb : Nat.blt d N = true)
    (h : KL P ops Q rest N ((d, goInt (Nat.min sLen dLen)) :: L) (w.setRow g (cur.take off ++ cs ++ cur.drop (off + cs.length)).toArray)) : KL P ops Q (o :: rest) N L w := by
  have hx' : ev L (.tmp x) = .slice (some ⟨g, off, none⟩) dLen dCap := by simp [ev, hx]
  have hy' : ev L (.tmp y) = .slice (some ⟨g2, o2, none⟩) sLen sCap := by simp [ev, hy]
  have hr := run_copy_rowN (P := P) w dT dT o.type elem sz g off dLen dCap ⟨g2, o2, none⟩ sLen sCap cur.toArray t cs hu hs hcur hn (fun j v hj => by rw [Addr.add_lit]; exact hsrc j v hj) (by simpa using hfit) h1
  refine kl_run hd hg (by simp [ho, okop, okx, hx, hy, hb]) ?_ h
  unfold execOp
  simp only [ho, resolve, invoke, builtin, Sem.run_bind, Sem.run_pure, Result.andThen_ok, List.map_toArray, List.map_cons, List.map_nil, hx', hy', hr]
theorem kl_appZ {d x y : Nat} (t tn e : TypeId) (z : Value) (size bytes : Nat) (ht : P.underlying t = some (.slice e)) (htn : P.underlying tn = some (.int .i64)) (hinfo : (P.info? e).map (fun i => (i.zero, i.size, i.bytes)) = some (some z, size, bytes)) (hzs : z.cells.size = size) (hsz : 0 < size)
    (g sLen sCap : Nat) (olds : List Value) (hol : olds.length = sLen * size) (hold : ∀ j v, olds[j]? = some v → w.cell? ⟨g, j, none⟩ = some v) (k : Nat) (h0 : 0 < k) (hgr : sCap < sLen + k) (hby : (sLen + k) * bytes ≤ 140737488355328) (h63 : sLen + k ≤ maxLen)
    (hd : o.dst = some d) (hg : o.guard = none) (ho : o.op = .call { callee := .builtin .append, args := #[.tmp x, .tmp y], argTypes := #[t, tn] })
    (hx : lk L x = some (.slice (some ⟨g, 0, none⟩) sLen sCap)) (hy : lk L y = some (.int .i64 (k : Int))) (hb : Nat.blt d N = true)
    (h : ∀ cap Z w', sLen + k ≤ cap → cap ≤ maxLen → Z.length = (cap - sLen) * size → w'.heap[w.heap.size]? = some (.cells (olds ++ Z).toArray e (0, 0)) → Below w.heap.size w w' → KL P ops Q rest N ((d, .slice (some ⟨w.heap.size, 0, none⟩) (sLen + k) cap) :: L) w') : KL P ops Q (o :: rest) N L w := by
  obtain ⟨i0, hi0, hz0, hz1, hz2⟩ := info_parts hinfo
  have hx' : ev L (.tmp x) = .slice (some ⟨g, 0, none⟩) sLen sCap := by simp [ev, hx]
  have hy' : ev L (.tmp y) = .int .i64 (k : Int) := by simp [ev, hy]
  have hfit := growslice_fits (bytes := bytes) hgr hby
  have hkb : k * bytes ≤ (sLen + k) * bytes := Nat.mul_le_mul_right _ (by omega)
  have hr := Lib.run_append_grow_zeros (P := P) w t tn o.type e i0 z .i64 .i64 ht htn hi0 hz0 (some ⟨g, 0, none⟩) sLen sCap olds
    (run_firstCells_some w.drew i0.size sLen ⟨g, 0, none⟩ sLen sCap olds (by rw [hz1]; exact hol) (fun j v hj => by rw [Addr.add_lit, Nat.zero_add]; exact hold j v hj))
    k h0 (by omega) hgr (by simp only [maxLen] at h63; omega) (by rw [hz2]; omega) (by rw [hz2]; exact hfit)
  have hge := grownCap_ge w (sLen + k) sCap e
  have hle := grownCap_le_maxLen w (sLen + k) sCap e h63
  obtain ⟨cap, hcap⟩ : ∃ cap, grownCap w (sLen + k) sCap e = cap := ⟨_, rfl⟩
  rw [hcap] at hr hge hle
  refine kl_run hd hg (by simp [ho, okop, okx, hx, hy, hb]) (v := .slice (some ⟨w.heap.size, 0, none⟩) (sLen + k) cap) (w' := w.drew.alloc (.cells (olds.toArray ++ Builtin.zeroCells z.cells k ++ Builtin.zeroCells z.cells (cap - (sLen + k))) e)) ?_ (h cap (Builtin.zeroCells z.cells k ++ Builtin.zeroCells z.cells (cap - (sLen + k))).toList _ hge hle ?_ ?_ ?_)
  · unfold execOp
    simp only [ho, resolve, invoke, builtin, Sem.run_bind, Sem.run_pure, Result.andThen_ok, List.map_toArray, List.map_cons, List.map_nil, hx', hy', hr]
  · rw [Array.toList_append, List.length_append, Array.length_toList, Array.length_toList, size_zeroCells, size_zeroCells, hzs, ← Nat.add_mul]
    congr 1
    omega
  · have := heap_alloc_new w.drew (.cells (olds.toArray ++ Builtin.zeroCells z.cells k ++ Builtin.zeroCells z.cells (cap - (sLen + k))) e)
    refine Eq.trans this ?_
    congr 2
    rw [Array.append_assoc]
    apply Array.toList_inj.1
    simp
  · exact ((Below.refl w.heap.size w).drew).alloc (Nat.le_refl _) _
end
end Go.Proofs.Ytkncomkncfcecaa
