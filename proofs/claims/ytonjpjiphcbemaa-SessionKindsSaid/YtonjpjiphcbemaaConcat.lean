/- A frame of chapter 17 as an argument, opened. slices.Clone at bytes. slices.Clone, Grow, Concat at bytes. -/
import Derived.Test.YtonjpjiphcbemaaHashArgs
import Derived.Test.YtonjpjiphcbemaaSesMem
import Derived.Test.YtonjpjiphcbemaaKnApp
import Derived.Lib.AppendZerosOnto
import Derived.Lib.SliceRun
import Derived.Test.YtonjpjiphcbemaaGrow
namespace Go.Proofs.Ytonjpjiphcbemaa
open Go.ChangeShapes Go.WideShapes Go.ChangeAt Go.RowKit Go.Deep
section
variable {H : Type} {enc : TypeId × Value → H} {P : Program} {W : World}
theorem hash_of_trod {t e : TypeId} {cs : List Value} {y : DataW H × List MemPlace} {fuel : Nat} {h63 : Bool} (ht : P.underlying t = some (.array 32 e)) (he : P.underlying e = some (.int .u8)) (ct : P.cellsOf t = 32) (ce : P.cellsOf e = 1)
    (hf : DataW.trod enc P W 0 (fun _ => true) h63 fuel t cs = some y) : ∃ l : List UInt8, cs = bv l ∧ l.length = 32 := by
  obtain ⟨xs, m, _, _, hlen, hxl, hx⟩ := DataW.trod_array ht hf
  rw [ct] at hlen
  have hrow : ∀ i, i < 32 → ∃ x : UInt8, cs[i]? = some (.int .u8 (x.toNat : Int)) := by
    intro i hi
    have h1 := hx i hi
    rw [ce, List.getElem?_eq_getElem (by omega), Nat.mul_one] at h1
    obtain ⟨z, hz, _, hwf⟩ := DataW.trod_int he h1
    obtain ⟨u, rfl⟩ := u8_value hwf
    refine ⟨u, ?_⟩
    have h2 := congrArg (fun l : List Value => l[0]?) hz
    simp only [List.getElem?_take, List.getElem?_drop, Nat.lt_one_iff, if_true, Nat.add_zero, List.getElem?_cons_zero] at h2
    simpa using h2
  haveI : Inhabited UInt8 := ⟨0⟩
  obtain ⟨F, hF⟩ := choose_lt hrow
  refine ⟨(List.range 32).map F, ?_, by simp⟩
  apply List.ext_getElem?
  intro i
  rcases Nat.lt_or_ge i 32 with h | h
  · rw [hF i h, bv_get _ i (by simpa using h)]
    simp
  · rw [List.getElem?_eq_none (by omega), List.getElem?_eq_none (by simp [length_bv]; omega)]
theorem slB_of_trod {t e : TypeId} {v : Value} {y : DataW H × List MemPlace} {n : Nat} {h63 : Bool} (ht : P.underlying t = some (.slice e)) (he : P.underlying e = some (.int .u8)) (hc : P.cellsOf e = 1)
    (hf : DataW.trod enc P W 0 (fun _ => true) h63 n t [v] = some y) : ∃ l, SlB W l v := by
  rcases open_ints ht he hc hf with ⟨hcs, _⟩ | ⟨x, l, c', zs, hcs, _, hl, hm, hz, hx, hcell, hwz⟩
  · simp at hcs
    exact ⟨[], none, 0, 0, hcs, Bs.nil _ _, Nat.le_refl _, by omega⟩
  · simp at hcs
    simp only [if_true] at hz
    refine ⟨toBytes (zs.take l), some x, l, c', hcs, ⟨by simp [bv, toBytes]; omega, fun hn => ?_⟩, hl, by simpa [maxLen] using hm⟩
    have hspot : x.spot = none := World.cell?_spot (by simpa [Addr.add] using hcell 0 (by omega))
    obtain ⟨xb, xo, xs⟩ := x
    dsimp only at hspot
    subst hspot
    refine ⟨xb, xo, rfl, fun i u hu => ?_⟩
    simp only [bv, toBytes, List.getElem?_map, Option.map_map, Option.map_eq_some_iff] at hu
    obtain ⟨z, hz', rfl⟩ := hu
    have hi : i < l ∧ zs[i]? = some z := by
      rw [List.getElem?_take] at hz'
      split at hz'
      · exact ⟨by assumption, hz'⟩
      · cases hz'
    have := hcell i (by omega)
    rw [Addr.add_lit] at this
    rw [this, List.getD_eq_getElem?_getD, hi.2]
    simp only [Option.getD_some, Function.comp_apply]
    rw [u8_back (hwz z (List.mem_of_getElem? hi.2))]
theorem piece_ {α : Type} (l : List α) (a b : Nat) : l.drop a = (l.drop a).take b ++ l.drop (a + b) := by rw [← List.drop_drop, List.take_append_drop]
theorem frame_of_trod {t : TypeId} {f0 f1 f2 f3 f4 f5 : Field} {he be hb : TypeId} {cs : List Value} {y : DataW H × List MemPlace} {fuel : Nat} {h63 : Bool} (ht : P.underlying t = some (.struct #[f0, f1, f2, f3, f4, f5])) (ct : P.cellsOf t = 37)
    (hoff : [f0.offset, f1.offset, f2.offset, f3.offset, f4.offset, f5.offset] = [0, 1, 2, 3, 4, 36]) (hcl : [f0, f1, f2, f3, f4, f5].map (fun f => P.cellsOf f.type) = [1, 1, 1, 1, 32, 1])
    (u0 : P.underlying f0.type = some (.int .i64)) (u1 : P.underlying f1.type = some (.int .i64)) (u2 : P.underlying f2.type = some (.int .i64)) (u3 : P.underlying f3.type = some (.int .i64)) (u4 : P.underlying f4.type = some (.array 32 he)) (uh : P.underlying he = some (.int .u8)) (ch : P.cellsOf he = 1)
    (u5 : P.underlying f5.type = some (.slice be)) (ub : P.underlying be = some (.int .u8)) (cb : P.cellsOf be = 1)
    (hf : DataW.trod enc P W 0 (fun _ => true) h63 fuel t cs = some y) : ∃ (f : Frm) (D : Value), cs = frmV f D ∧ FrmM W f D := by
  simp only [List.cons.injEq, and_true] at hoff
  obtain ⟨o0, o1, o2, o3, o4, o5⟩ := hoff
  simp only [List.map_cons, List.map_nil, List.cons.injEq, and_true] at hcl
  obtain ⟨c0, c1, c2, c3, c4, c5⟩ := hcl
  obtain ⟨xs, m, _, _, hlen, hxl, hfs⟩ := DataW.trod_struct ht hf
  rw [ct] at hlen
  match xs, hxl with
  | [y0, y1, y2, y3, y4, y5], _ =>
    have g0 := hfs 0 f0 rfl
    have g1 := hfs 1 f1 rfl
    have g2 := hfs 2 f2 rfl
    have g3 := hfs 3 f3 rfl
    have g4 := hfs 4 f4 rfl
    have g5 := hfs 5 f5 rfl
    simp only [o0, o1, o2, o3, o4, o5, c0, c1, c2, c3, c4, c5, List.getElem?_cons_zero, List.getElem?_cons_succ] at g0 g1 g2 g3 g4 g5
    obtain ⟨z0, w0, _, q0⟩ := DataW.trod_int u0 g0
    obtain ⟨z1, w1, _, q1⟩ := DataW.trod_int u1 g1
    obtain ⟨z2, w2, _, q2⟩ := DataW.trod_int u2 g2
    obtain ⟨z3, w3, _, q3⟩ := DataW.trod_int u3 g3
    obtain ⟨h, w4, hh⟩ := hash_of_trod u4 uh c4 ch g4
    obtain ⟨D, w5⟩ : ∃ D, (cs.drop 36).take 1 = [D] := by
      have h1 : ((cs.drop 36).take 1).length = 1 := by rw [List.length_take, List.length_drop]; omega
      match hq : (cs.drop 36).take 1, h1 with
      | [D], _ => exact ⟨D, rfl⟩
    rw [w5] at g5
    obtain ⟨l, hD⟩ := slB_of_trod u5 ub cb g5
    refine ⟨⟨z0, z1, z2, z3, h, l⟩, D, ?_, ⟨i64_bounds q0, i64_bounds q1, i64_bounds q2, i64_bounds q3, hh, hD⟩⟩
    have E6 : cs.drop (36 + 1) = [] := List.drop_of_length_le (by omega)
    have E5 : cs.drop 36 = [D] := by rw [piece_ cs 36 1, w5, E6]; rfl
    have E4 : cs.drop 4 = bv h ++ [D] := by rw [piece_ cs 4 32, w4]; exact congrArg _ E5
    have E3 : cs.drop 3 = .int .i64 z3 :: (bv h ++ [D]) := by rw [piece_ cs 3 1, w3]; exact congrArg (fun l => [Value.int .i64 z3] ++ l) E4
    have E2 : cs.drop 2 = .int .i64 z2 :: .int .i64 z3 :: (bv h ++ [D]) := by rw [piece_ cs 2 1, w2]; exact congrArg (fun l => [Value.int .i64 z2] ++ l) E3
    have E1 : cs.drop 1 = .int .i64 z1 :: .int .i64 z2 :: .int .i64 z3 :: (bv h ++ [D]) := by rw [piece_ cs 1 1, w1]; exact congrArg (fun l => [Value.int .i64 z1] ++ l) E2
    have E0 : cs.drop 0 = .int .i64 z0 :: .int .i64 z1 :: .int .i64 z2 :: .int .i64 z3 :: (bv h ++ [D]) := by rw [piece_ cs 0 1, w0]; exact congrArg (fun l => [Value.int .i64 z0] ++ l) E1
    exact E0
theorem open_frame {t : TypeId} {f0 f1 f2 f3 f4 f5 : Field} {he be hb : TypeId} {v : Value} {d : DataW H} {p : List MemPlace} {h63 : Bool} (ht : P.underlying t = some (.struct #[f0, f1, f2, f3, f4, f5])) (ct : P.cellsOf t = 37)
    (hoff : [f0.offset, f1.offset, f2.offset, f3.offset, f4.offset, f5.offset] = [0, 1, 2, 3, 4, 36]) (hcl : [f0, f1, f2, f3, f4, f5].map (fun f => P.cellsOf f.type) = [1, 1, 1, 1, 32, 1])
    (u0 : P.underlying f0.type = some (.int .i64)) (u1 : P.underlying f1.type = some (.int .i64)) (u2 : P.underlying f2.type = some (.int .i64)) (u3 : P.underlying f3.type = some (.int .i64)) (u4 : P.underlying f4.type = some (.array 32 he)) (uh : P.underlying he = some (.int .u8)) (ch : P.cellsOf he = 1)
    (u5 : P.underlying f5.type = some (.slice be)) (ub : P.underlying be = some (.int .u8)) (cb : P.cellsOf be = 1)
    (h : DataW.Trod enc P W 0 (fun _ => true) h63 t v d p) : ∃ (f : Frm) (D : Value), v = .agg (frmV f D).toArray ∧ FrmM W f D := by
  obtain ⟨fuel, hf⟩ := h
  obtain ⟨f, D, hcs, hM⟩ := frame_of_trod (hb := hb) ht ct hoff hcl u0 u1 u2 u3 u4 uh ch u5 ub cb hf
  refine ⟨f, D, ?_, hM⟩
  have hsz : v.cells.size = 37 := by
    have := congrArg List.length hcs
    rw [length_frmV f D hM.sum] at this
    simpa using this
  have hcs' : v.cells = (frmV f D).toArray := Array.toList_inj.1 (by simpa using hcs)
  cases v with
  | agg cs => simp only [Value.cells] at hcs'; rw [hcs']
  | _ => simp [Value.cells] at hsz
end
end Go.Proofs.Ytonjpjiphcbemaa
namespace Go.Proofs.Ytonjpjiphcbemaa
open Go.RowKit



theorem clone_any (A : Option Addr) (n c : Nat) (l : List UInt8) (w : World) (hA : Bs w A n l) (hn : n ≤ 140737488355328) :
    Calls Try.prog 38 #[.slice A n c] w fun e w' => ∃ v, e = .returned v ∧ w'.ownsRow w.heap.size 5 1 v n (bv l) ∧ Below w.heap.size w w' := by
  obtain ⟨i0, hi0, hz0, hz1, hz2⟩ := info_parts byteInfo
  have hnil := fun W => Lib.run_eql_slice_nil (P := Try.prog) W 22 5 A n c 0 0 Try.underlying22
  rcases A with _ | ad
  · have h0 : n = 0 := by
      rcases Nat.eq_zero_or_pos n with h | h
      · exact h
      · obtain ⟨_, _, h, _⟩ := hA.2 h; cases h
    subst h0
    have hl : l = [] := List.eq_nil_of_length_eq_zero hA.len
    subst hl
    clear hA
    go_enter Try.func38, Try.ntmps38
    go_wp2
    go_ret
    exact ⟨_, rfl, World.ownsRow_nil _ _ _ _, Below.refl _ _⟩
  · go_enter Try.func38, Try.ntmps38
    go_wp2_with (at_builtin; refine wpList_append_V _ rfl (.tmp 5) (.tmp 6) 22 rfl w.heap.size 5 i0 (.int .u8 0) 1 Try.underlying22 hi0 hz0 hz1 hz2 rfl (.slice (some ⟨w.heap.size, 0, none⟩) 0 0) 0 [] rfl (World.ownsRow_made w #[] 0 (Nat.le_refl _) (by simp [maxLen]) rfl) (some ad) n c (bv l) rfl (hA.alloc _) (bv_one l) (by omega) (by simp only [maxLen]; omega) (by simp) ?_; intro v1 w1 hown1 hg1 hat1)
    go_ret
    have hb := (Below.refl w.heap.size w).alloc (Nat.le_refl _) (.cells #[] 5)
    rw [Nat.zero_add, List.nil_append] at hown1
    exact ⟨_, rfl, hown1, hb.grown hg1 (by simp) (by simp [Value.ownBlock])⟩
end Go.Proofs.Ytonjpjiphcbemaa
