/- A reader on its way, and variables in blocks of their own. session: the reader's hash. -/
import Derived.Test.YtkgenkkcgegcbaaSesFrmP
import Derived.Test.YtkgenkkcgegcbaaLay
import Derived.Test.YtkgenkkcgegcbaaKnF
import Derived.Laws.CopyRow
namespace Go.Proofs.Ytkgenkkcgegcbaa
open Go.RowKit
theorem LayV.grown {w w' : World} {B g : Nat} (hg : w.grownBy w' (some g)) : ∀ {V : Vars}, LayV w B V → (∀ p ∈ V, p.1 ≠ g) → LayV w' B V
  | [], _, _ => trivial
  | (b, cs, t) :: V, h, hne => ⟨h.1, by
      have hb : b ≠ g := hne (b, cs, t) (by simp)
      rw [hg.block b (Array.getElem?_eq_some_iff.1 h.2.1).1 (fun e => hb (by injection e))]; exact h.2.1, h.2.2.1, LayV.grown hg h.2.2.2 fun p hp => hne p (by simp [hp])⟩
/-- a reader's state: the code's, the document's -/
def RSt : Bool → World → Nat → List UInt8 → Int → Prop
  | true, W, g, l, e => CRP (fun b => b < g) W g l e
  | false, W, g, l, e => RR W g g l e
theorem RSt.below {k : Bool} {W W' : World} {g : Nat} {l : List UInt8} {e : Int} (h : RSt k W g l e) (hb : Below W.heap.size W W') : RSt k W' g l e := by
  cases k
  · exact RR.below h hb
  · exact CRP.below h hb
theorem RSt.other {k : Bool} {W W' : World} {g g2 : Nat} {l : List UInt8} {e : Int} (h : RSt k W g l e) (hg : W.grownBy W' (some g2)) (hlt : g < g2) : RSt k W' g l e := by
  cases k
  · exact RR.other h hg (by omega) (Nat.le_of_lt hlt)
  · exact CRP.other h hg (by omega) (fun b hb => by omega)
theorem RSt.lt {k : Bool} {W : World} {g : Nat} {l : List UInt8} {e : Int} (h : RSt k W g l e) : g < W.heap.size := by
  cases k
  · obtain ⟨A, N, c, p, L, hg, _⟩ := h
    exact (Array.getElem?_eq_some_iff.1 hg).1
  · obtain ⟨A, n, c, hg, _⟩ := h
    exact (Array.getElem?_eq_some_iff.1 hg).1
structure Rd (k : Bool) (w0 W : World) (V : Vars) (g : Nat) (l : List UInt8) (e : Int) : Prop where
  grown : w0.grownBy W (some g)
  vars : LayV W w0.heap.size V
  rd : RSt k W g l e
  apart : ∀ p ∈ V, p.1 ≠ g
section
variable {k : Bool} {w0 W W' : World} {V : Vars} {g : Nat} {l l' : List UInt8} {e e' : Int}
theorem grown_row (W : World) (b : Nat) (cs : Array Value) : W.grownBy (W.setRow b cs) (some b) :=
  ⟨rfl, rfl, rfl, by simp [World.setRow], fun i _ hne => by rw [setRow_other _ _ _ _ (fun h => hne (by rw [h]))]⟩
theorem Rd.start (h : RSt k W g l e) : Rd k W W [] g l e := ⟨grown_refl _ _, trivial, h, fun p hp => by cases hp⟩
theorem Rd.of_lay (hL : Lay w0 W V) (h : RSt k W g l e) (ha : ∀ p ∈ V, p.1 ≠ g) : Rd k w0 W V g l e := ⟨⟨hL.below.os, hL.below.tape, hL.below.output, hL.below.size, fun i hi _ => hL.below.block i hi⟩, hL.vars, h, ha⟩
theorem Rd.lay (h : Rd k w0 W V g l e) (hB : w0.heap.size ≤ g) : Lay w0 W V := ⟨⟨h.grown.os, h.grown.tape, h.grown.output, h.grown.size, fun i hi => h.grown.block i hi (fun hh => by injection hh with hh; omega)⟩, h.vars⟩
theorem Rd.step (h : Rd k w0 W V g l e) (hg : W.grownBy W' (some g)) (hr : RSt k W' g l' e') : Rd k w0 W' V g l' e' := ⟨grown_trans h.grown hg, h.vars.grown hg h.apart, hr, h.apart⟩
theorem Rd.next (h : Rd k w0 W V g l e) (hb : Below W.heap.size W W') : Rd k w0 W' V g l e := h.step (grown_below hb _) (h.rd.below hb)
theorem Rd.drew (h : Rd k w0 W V g l e) : Rd k w0 W.drew V g l e := h.next (Below.refl _ _).drew
theorem Rd.alloc (h : Rd k w0 W V g l e) (cs : Array Value) (t : TypeId) : Rd k w0 (W.alloc (.cells cs t)) ((W.heap.size, cs, t) :: V) g l e := by
  have hb : Below W.heap.size W (W.alloc (.cells cs t)) := (Below.refl _ _).alloc (Nat.le_refl _) _
  have hn := h.next hb
  refine ⟨hn.grown, ⟨h.grown.size, heap_alloc_new _ _, h.vars.lt, hn.vars⟩, hn.rd, fun p hp => ?_⟩
  rcases List.mem_cons.1 hp with rfl | hp
  · exact Nat.ne_of_gt h.rd.lt
  · exact h.apart p hp
theorem Rd.at_ (h : Rd k w0 W V g l e) (i : Nat) {b : Nat} {cs : Array Value} {t : TypeId} (hi : V[i]? = some (b, cs, t)) : W.heap[b]? = some (.cells cs t (0, 0)) := (h.vars.get i hi).2
theorem Rd.get (h : Rd k w0 W V g l e) (i : Nat) {b : Nat} {cs : List Value} {t : TypeId} (hi : V[i]? = some (b, cs.toArray, t)) {j : Nat} {u : Value} (hu : cs[j]? = some u) : W.cell? ⟨b, j, none⟩ = some u := cell_of_block (h.at_ i hi) (by rw [List.getElem?_toArray]; exact hu)
theorem Rd.free (h : Rd k w0 W V g l e) (i : Nat) {b : Nat} {cs : Array Value} {t : TypeId} (hi : V[i]? = some (b, cs, t)) (j : Nat) : W.frozen? ⟨b, j, none⟩ = false := free_of_block (h.at_ i hi)
theorem Rd.row (h : Rd k w0 W V g l e) (i : Nat) {b : Nat} {cs : Array Value} {t : TypeId} (hi : V[i]? = some (b, cs, t)) (hgt : g < b) (cs' : Array Value) : Rd k w0 (W.setRow b cs') (V.set i (b, cs', t)) g l e := by
  have hge := (h.vars.get i hi).1
  have hg2 := grown_row W b cs'
  refine ⟨⟨h.grown.os, h.grown.tape, h.grown.output, Nat.le_trans h.grown.size hg2.size, fun j hj hne => ?_⟩, h.vars.put i hi (setRow_block (h.at_ i hi)) (fun k x hk hx => by rw [setRow_other _ _ _ _ hk]; exact hx), h.rd.other hg2 hgt, fun p hp => ?_⟩
  · rw [setRow_other _ _ _ _ (by omega)]; exact h.grown.block j hj hne
  · rcases List.mem_or_eq_of_mem_set hp with hp | rfl
    · exact h.apart p hp
    · exact Nat.ne_of_gt hgt
theorem Rd.cell (h : Rd k w0 W V g l e) (i : Nat) {b : Nat} {cs : List Value} {t : TypeId} (hi : V[i]? = some (b, cs.toArray, t)) (hgt : g < b) (j : Nat) (u : Value) : Rd k w0 (W.setCell ⟨b, j, none⟩ u) (V.set i (b, (cs.set j u).toArray, t)) g l e := by
  have := h.row i hi hgt (cs.set j u).toArray
  rw [setCell_eq_setRow W b j _ t (0, 0) u (h.at_ i hi), List.setIfInBounds_toArray]
  exact this
theorem Rd.keepB (h : Rd k w0 W V g l e) {A : Option Addr} {n : Nat} {xs : List UInt8} (hB : Bs w0 A n xs) (ha : Away g A) : Bs W A n xs := hB.grownKeep h.grown ha
end
section
variable {P : Program} {Q : Exit → Act → World → Prop} {N : Nat} {L : Slots} {k : Bool} {w0 w : World} {V : Vars} {g : Nat} {l : List UInt8} {er : Int} {ops : Array Oper} {rest : List Oper} {o o' : Oper}
theorem kl_varR {d y : Nat} {t : TypeId} {z cells : Array Value} (hR : Rd k w0 w V g l er) (hz : (P.info? t).bind (·.zero) = some (.agg z)) (hi : (P.info? t).map (·.size) = some cells.size) (hs : z.size = cells.size) (hwv : cells.all (·.oneCell') = true)
    (hd : o.dst = some d) (hg : o.guard = none) (ho : o.op = .alloc t) (hd' : o'.dst = none) (hg' : o'.guard = none) (ho' : o'.op = .store t (.tmp d) (.tmp y)) (hy : lk L y = some (.agg cells)) (hne : (d == y) = false) (hn : Nat.blt d N = true)
    (h : ∀ b w', g < b → Below w.heap.size w w' → Rd k w0 w' ((b, cells, t) :: V) g l er → KL P ops Q rest N ((d, .pointer (some ⟨b, 0, none⟩)) :: L) w') : KL P ops Q (o :: o' :: rest) N L w :=
  kl_var_row hz hi hs hwv hd hg ho hd' hg' ho' hy hne hn (h _ _ hR.rd.lt ((Below.refl _ _).alloc (Nat.le_refl _) _) (hR.alloc _ _))
theorem kl_boxR {d y : Nat} {t : TypeId} {cells : Array Value} (hR : Rd k w0 w V g l er) (hd : o.dst = some d) (hg : o.guard = none) (ho : o.op = .box t (.tmp y)) (hy : lk L y = some (.agg cells)) (hn : Nat.blt d N = true)
    (h : ∀ b w', g < b → Below w.heap.size w w' → Rd k w0 w' ((b, cells, t) :: V) g l er → KL P ops Q rest N ((d, .pointer (some ⟨b, 0, none⟩)) :: L) w') : KL P ops Q (o :: rest) N L w :=
  kl_boxL (Lay.start w) hd hg ho hy hn fun b w' hb hbl hL => by
    subst hb
    have hw : w' = w.alloc (.cells cells t) ∨ True := .inr trivial
    exact h _ _ hR.rd.lt hbl (by
      have hn := hR.next hbl
      refine ⟨hn.grown, ⟨hR.grown.size, hL.at_ 0 rfl, hR.vars.lt, hn.vars⟩, hn.rd, fun p hp => ?_⟩
      rcases List.mem_cons.1 hp with rfl | hp
      · exact Nat.ne_of_gt hR.rd.lt
      · exact hR.apart p hp)
theorem kl_zeroR {d : Nat} {t : TypeId} {z : Array Value} (hR : Rd k w0 w V g l er) (hz : (P.info? t).bind (·.zero) = some (.agg z)) (hd : o.dst = some d) (hg : o.guard = none) (ho : o.op = .alloc t) (hn : Nat.blt d N = true)
    (h : ∀ b w', g < b → Below w.heap.size w w' → Rd k w0 w' ((b, z, t) :: V) g l er → KL P ops Q rest N ((d, .pointer (some ⟨b, 0, none⟩)) :: L) w') : KL P ops Q (o :: rest) N L w :=
  kl_alloc_row t hz hd hg ho hn (h _ _ hR.rd.lt ((Below.refl _ _).alloc (Nat.le_refl _) _) (hR.alloc _ _))
theorem kl_getR {d x : Nat} {ty t : TypeId} {b : Nat} {cs : Array Value} {de : TypeDesc} (hR : Rd k w0 w V g l er) (i : Nat) (hV : V[i]? = some (b, cs, t)) (hu : P.underlying ty = some de) (hde : (match de with | .struct _ | .array _ _ => true | _ => false) = true) (hi : (P.info? ty).map (·.size) = some cs.size)
    (hd : o.dst = some d) (hg : o.guard = none) (ho : o.op = .load ty (.tmp x)) (hx : lk L x = some (.pointer (some ⟨b, 0, none⟩))) (hn : Nat.blt d N = true)
    (h : KL P ops Q rest N ((d, .agg cs) :: L) w) : KL P ops Q (o :: rest) N L w :=
  kl_load_row ty b t cs (0, 0) de (hR.at_ i hV) hu (by cases de <;> simp_all) hi hd hg ho hx hn h
theorem kl_putR {x y : Nat} {ty t : TypeId} {b : Nat} {cs cells : Array Value} (hR : Rd k w0 w V g l er) (i : Nat) (hV : V[i]? = some (b, cs, t)) (hgt : g < b) (hi : (P.info? ty).map (·.size) = some cells.size) (hs : cs.size = cells.size) (hwv : cells.all (·.oneCell') = true)
    (hd : o.dst = none) (hg : o.guard = none) (ho : o.op = .store ty (.tmp x) (.tmp y)) (hx : lk L x = some (.pointer (some ⟨b, 0, none⟩))) (hy : lk L y = some (.agg cells))
    (h : Rd k w0 (w.setRow b cells) (V.set i (b, cells, t)) g l er → KL P ops Q rest N L (w.setRow b cells)) : KL P ops Q (o :: rest) N L w :=
  kl_store_row ty b cells t cs (hR.at_ i hV) hi hs hwv hd hg ho hx hy (h (hR.row i hV hgt cells))
/-- an array is laid into a block's midst -/
theorem kl_store_part {x y : Nat} {ty t : TypeId} {b off : Nat} {cur vs : List Value} (hb : w.heap[b]? = some (.cells cur.toArray t (0, 0))) (hl : off + vs.length ≤ cur.length) (hi : (P.info? ty).map (·.size) = some vs.length) (h1 : ∀ v ∈ vs, v.oneCell' = true)
    (hd : o.dst = none) (hg : o.guard = none) (ho : o.op = .store ty (.tmp x) (.tmp y)) (hx : lk L x = some (.pointer (some ⟨b, off, none⟩))) (hy : lk L y = some (.agg vs.toArray))
    (h : KL P ops Q rest N L (w.setRow b (cur.take off ++ vs ++ cur.drop (off + vs.length)).toArray)) : KL P ops Q (o :: rest) N L w := by
  have hst := run_storeCells_at P b off t vs 0 cur.toArray w hb (by simpa using hl) h1
  have hx' : ev L (.tmp x) = .pointer (some ⟨b, off, none⟩) := by simp [ev, hx]
  have hy' : ev L (.tmp y) = .agg vs.toArray := by simp [ev, hy]
  refine kl_run0 hd hg (by simp [ho, okop, okx, hx, hy]) ?_ h
  cases hq : P.info? ty with
  | none => simp [hq] at hi
  | some i =>
    have hs : vs.length = i.size := by simp [hq] at hi; omega
    unfold execOp
    simp only [ho, hx', hy', Instr.storeAt, Instr.sureAddr, Sem.run_bind, Sem.run_pure, Result.andThen_ok]
    have : (storeVar ty ⟨b, off, none⟩ (.agg vs.toArray)).run P w = .ok () (w.setRow b (cur.take off ++ vs ++ cur.drop (off + vs.length)).toArray) := by
      simp [storeVar, sizeOf, typeInfo, hq, Value.cells, hs]
      simpa [hs] using hst
    rw [this]
    rfl
end
/-! ### what the readers' functions do -/
section
variable {w0 W : World} {V : Vars} {g : Nat} {l : List UInt8} {e : Int}
theorem hlt (g : Nat) : ∀ b, (fun b => b < g) b → b ≠ g := fun _ h => Nat.ne_of_lt h
theorem rdInt (h : Rd true w0 W V g l e) : Calls Try.prog 47 #[.pointer (some ⟨g, 0, none⟩)] W fun r W' => r = .returned (.int .i64 (tkN (taken l e 8))) ∧ Rd true w0 W' V g (taken l e 8).2.1 (taken l e 8).2.2 :=
  Calls.mono (readInt_Q _ g (hlt g) l e W h.rd) fun _ _ ⟨h1, h2, h3⟩ => ⟨h1, h.step h3 h2⟩
theorem rdByte (h : Rd true w0 W V g l e) : Calls Try.prog 65 #[.pointer (some ⟨g, 0, none⟩)] W fun r W' => r = .returned (.int .i64 (((taken l e 1).1.headD 0).toNat : Int)) ∧ Rd true w0 W' V g (taken l e 1).2.1 (taken l e 1).2.2 :=
  Calls.mono (readByte_Q _ g (hlt g) l e W h.rd) fun _ _ ⟨h1, h2, h3⟩ => ⟨by rw [h1, leN_head _ (taken_len l e 1)], h.step h3 h2⟩
theorem rdText (h : Rd true w0 W V g l e) : Calls Try.prog 50 #[.pointer (some ⟨g, 0, none⟩)] W fun r W' => r = .returned (.string ⟨(textOf l e).1.toArray⟩) ∧ Rd true w0 W' V g (textOf l e).2.1 (textOf l e).2.2 :=
  Calls.mono (readText_Q _ g (hlt g) l e W h.rd) fun _ _ ⟨h1, h2, h3⟩ => ⟨h1, h.step h3 h2⟩
theorem rdFail (f : Int) (h : Rd true w0 W V g l e) : Calls Try.prog 48 #[.pointer (some ⟨g, 0, none⟩), .int .i64 f] W fun r W' => r = .returned (.tuple #[]) ∧ Rd true w0 W' V g l (if e = 0 then f else e) :=
  Calls.mono (fail_Q _ g (hlt g) l e f W h.rd) fun _ _ ⟨h1, h2, h3⟩ => ⟨h1, h.step h3 h2⟩
theorem rdEnd (h : Rd true w0 W V g l e) : Calls Try.prog 51 #[.pointer (some ⟨g, 0, none⟩)] W fun r W' => r = .returned (.int .i64 (ended l e)) ∧ Rd true w0 W' V g l e ∧ Below W.heap.size W W' :=
  Calls.mono (end_Q _ g (hlt g) l e W h.rd) fun _ _ ⟨h1, h2⟩ => ⟨h1, by subst h2; exact ⟨h, Below.refl _ _⟩⟩
theorem rdNew (A : Option Addr) (n c : Nat) (l : List UInt8) (hL : Lay w0 W V) (hA : Bs W A n l) (hn : n ≤ 140737488355328) :
    Calls Try.prog 46 #[.slice A n c] W fun r W' => ∃ g, r = .returned (.pointer (some ⟨g, 0, none⟩)) ∧ W.heap.size ≤ g ∧ Rd true w0 W' V g l 0 :=
  Calls.mono (new_Q A n c l W hA hn) fun _ _ ⟨g, h1, h2, h3, h4, h5⟩ => ⟨g, h1, h2, Rd.of_lay (hL.next h5) h4 fun p hp => by have := hL.vars.lt p hp; omega⟩
theorem rrInt (h : Rd false w0 W V g l e) : Calls Try.prog 54 #[.pointer (some ⟨g, 0, none⟩)] W fun r W' => r = .returned (.int .i64 (tkN (taken l e 8))) ∧ Rd false w0 W' V g (taken l e 8).2.1 (taken l e 8).2.2 :=
  Calls.mono (refInt_read g g l e W h.rd) fun _ _ ⟨h1, h2, h3⟩ => ⟨h1, h.step h3 h2⟩
theorem rrByte (h : Rd false w0 W V g l e) : Calls Try.prog 56 #[.pointer (some ⟨g, 0, none⟩)] W fun r W' => r = .returned (.int .i64 (((taken l e 1).1.headD 0).toNat : Int)) ∧ Rd false w0 W' V g (taken l e 1).2.1 (taken l e 1).2.2 :=
  Calls.mono (refByte_read g g l e W h.rd) fun _ _ ⟨h1, h2, h3⟩ => ⟨by rw [h1, leN_head _ (taken_len l e 1)], h.step h3 h2⟩
theorem rrText (h : Rd false w0 W V g l e) : Calls Try.prog 57 #[.pointer (some ⟨g, 0, none⟩)] W fun r W' => r = .returned (.string ⟨(textOf l e).1.toArray⟩) ∧ Rd false w0 W' V g (textOf l e).2.1 (textOf l e).2.2 :=
  Calls.mono (refText_read g g l e W h.rd) fun _ _ ⟨h1, h2, h3⟩ => ⟨h1, h.step h3 h2⟩
theorem rrFail (f : Int) (h : Rd false w0 W V g l e) : Calls Try.prog 55 #[.pointer (some ⟨g, 0, none⟩), .int .i64 f] W fun r W' => r = .returned (.tuple #[]) ∧ Rd false w0 W' V g l (if e = 0 then f else e) :=
  Calls.mono (refFail_read g g l e f W h.rd) fun _ _ ⟨h1, h2, h3⟩ => ⟨h1, h.step h3 h2⟩
theorem rrEnd (h : Rd false w0 W V g l e) : Calls Try.prog 58 #[.pointer (some ⟨g, 0, none⟩)] W fun r W' => r = .returned (.int .i64 (ended l e)) ∧ Rd false w0 W' V g l e ∧ Below W.heap.size W W' :=
  Calls.mono (refEnd_read g g l e W h.rd) fun _ _ ⟨h1, h2⟩ => ⟨h1, h.next h2, h2⟩
theorem rrNew (A : Option Addr) (n c : Nat) (l : List UInt8) (hL : Lay w0 W V) (hA : Bs W A n l) (hn : n ≤ 1099511627776) (hc : n ≤ c) (hc2 : c ≤ 9223372036854775807) :
    Calls Try.prog 53 #[.slice A n c] W fun r W' => ∃ g, r = .returned (.pointer (some ⟨g, 0, none⟩)) ∧ W.heap.size ≤ g ∧ Rd false w0 W' V g l 0 :=
  Calls.mono (refNew_read W.heap.size A n c l W hA hn hc hc2 (Nat.le_refl _) hA.inQ) fun _ _ ⟨g, h1, h2, h3, h4, h5⟩ => ⟨g, h1, by omega, Rd.of_lay (hL.next h5) (by
      obtain ⟨A, N, c, p, L, q1, q2, q3, q4, q5, q6, q7, q8, q9⟩ := h4
      exact ⟨A, N, c, p, L, q1, q2, q3, q4, q5, q6, q7, Nat.le_refl _, fun hN a ha => Nat.lt_of_lt_of_le (q9 hN a ha) q8⟩) fun p hp => by have := hL.vars.lt p hp; omega⟩
/-- the document's reader's error is a field -/
theorem Rd.err (h : Rd false w0 W V g l e) : W.cell? ⟨g, 2, none⟩ = some (.int .i64 e) := by
  obtain ⟨A, N, c, p, L, hg, _⟩ := h.rd
  exact cell_of_block hg rfl
end
end Go.Proofs.Ytkgenkkcgegcbaa
namespace Go.Proofs.Ytkgenkkcgegcbaa
open Go.RowKit
attribute [local go_sem] ev_tmp ev_const ev_func ev_global lk_hit lk_miss uponK_value uponK_skip look_tmp look_const look_global look_func valP_value
theorem hashZ : (Try.prog.info? 26).bind (·.zero) = some (.agg (bv z32).toArray) := zeroB_of z32 (by kernel_rfl)
theorem hash_row (hs : List UInt8) (k : Nat) (x : UInt8) (hl : hs.length = k) (hk : k < 32) : (bv (hs ++ List.replicate (32 - k) 0)).set k (bval x) = bv ((hs ++ [x]) ++ List.replicate (32 - (k + 1)) 0) := by
  subst hl
  rw [bv_set', List.set_append_right _ _ (Nat.le_refl _), Nat.sub_self, show 32 - hs.length = (32 - (hs.length + 1)) + 1 by omega, List.replicate_succ, List.set_cons_zero, List.append_assoc]
  rfl
theorem hash_cell (hs : List UInt8) (k : Nat) (hl : hs.length = k) (hk : k < 32) : (bv (hs ++ List.replicate (32 - k) 0))[k]? = some (bval 0) := by
  subst hl
  unfold bv
  rw [List.getElem?_map, List.getElem?_append_right (Nat.le_refl _), Nat.sub_self, show 32 - hs.length = (32 - (hs.length + 1)) + 1 by omega, List.replicate_succ]
  rfl
def HashP (l : List UInt8) (e : Int) (g : Nat) (w : World) (r : Ending) (w' : World) : Prop := r = .returned (.agg (bv (hashN 32 ([], l, e)).1).toArray) ∧ RSt true w' g (hashN 32 ([], l, e)).2.1 (hashN 32 ([], l, e)).2.2 ∧ w.grownBy w' (some g)
set_option maxRecDepth 100000 in
set_option maxHeartbeats 1000000 in
theorem hash_any (g : Nat) (l : List UInt8) (e : Int) (w : World) (h : RSt true w g l e) :
    Calls Try.prog 49 #[.agg #[.pointer (some ⟨g, 0, none⟩)]] w (HashP l e g w) := by
  refine calls_kw Try.func49 rfl Try.ntmps49 rfl [(0, .agg #[.pointer (some ⟨g, 0, none⟩)])] rfl ?_
  refine kw_seq ?_
  refine kw_region ?_
  refine kl_boxR (Rd.start h) rfl rfl rfl rfl rfl ?_
  intro g1 w1 q1 hb1 hR
  clear h hb1
  refine kl_zeroR hR hashZ rfl rfl rfl rfl ?_
  intro g2 w2 q2 hb2 hR
  clear hb2
  repeat (first | refine kw_seq ?_ | refine kw_block ?_ | refine kw_skip ?_ | refine kw_region ?_ | refine kl_nil ?_ | refine kq_then ?_ | refine kq_block ?_ | refine kw_exit ?_ | refine kq_then_exit ?_ | refine kq_block_here rfl ?_ | refine kq_block_far rfl ?_ | refine kq_again_exit ?_ | refine kw_ret ?_ | refine kq_then_ret ?_ | refine kq_block_ret ?_ | refine kq_again_ret ?_ | refine kw_ift rfl ?_ | refine kw_iff rfl ?_ | refine kl_ung rfl rfl ?_ | refine kl_skipg rfl rfl rfl rfl ?_ | refine kl_skipg0 rfl rfl rfl ?_ | (first | refine kl_move rfl rfl (.inl rfl) rfl rfl ?_ | refine kl_move rfl rfl (.inr rfl) rfl rfl ?_ | refine kl_const rfl rfl (.inl rfl) rfl ?_ | refine kl_const rfl rfl (.inr rfl) rfl ?_) | ((first | refine kl_step rfl rfl rfl fun K hK => ?_ | refine kl_step0 rfl rfl rfl fun K hK => ?_); go_simp; (try go_bits); (first | refine hK _ _ ?_ | refine hK _ ?_); clear hK K))
  refine KW.less [1, 2, 4] ?_
  simp only [nrm, lk, Nat.reduceBEq, cond_true, cond_false]
  refine kw_loop (fun m L wr => ∃ k, k ≤ 32 ∧ m = 32 - k ∧ Hid (Rd true w wr [(g2, (bv ((hashN k ([], l, e)).1 ++ List.replicate (32 - k) 0)).toArray, 26), (g1, #[.pointer (some ⟨g, 0, none⟩)], 92)] g (hashN k ([], l, e)).2.1 (hashN k ([], l, e)).2.2) ∧
    L = [(1, .pointer (some ⟨g1, 0, none⟩)), (2, .pointer (some ⟨g2, 0, none⟩)), (4, .int .i64 (k : Int))]) ⟨0, by omega, rfl, (show Hid (Rd true w w2 [(g2, (bv z32).toArray, 26), (g1, #[.pointer (some ⟨g, 0, none⟩)], 92)] g l e) from hR), rfl⟩ ?_
  clear hR
  rintro m L wr ⟨k, hk, rfl, hR, rfl⟩
  have hlen := hashN_len k l e
  obtain ⟨hs, rl, re, hh⟩ : ∃ hs rl re, hashN k ([], l, e) = (hs, rl, re) := ⟨_, _, _, rfl⟩
  have HH := Lib.hid hh
  rw [hh] at hR hlen
  clear hh
  have hR := hR.out
  by_cases hlt : k < 32
  · have k0 : (0 : Int) ≤ k := by omega
    have k1 : (k : Int) < 32 := by omega
    have cg := hR.get (j := 0) (cs := [.pointer (some ⟨g, 0, none⟩)]) 1 rfl rfl
    have HL := Lib.hid hlen
    clear hlen
    repeat (first | refine kw_seq ?_ | refine kw_block ?_ | refine kw_skip ?_ | refine kw_region ?_ | refine kl_nil ?_ | refine kq_then ?_ | refine kq_block ?_ | refine kw_exit ?_ | refine kq_then_exit ?_ | refine kq_block_here rfl ?_ | refine kq_block_far rfl ?_ | refine kq_again_exit ?_ | refine kw_ret ?_ | refine kq_then_ret ?_ | refine kq_block_ret ?_ | refine kq_again_ret ?_ | refine kw_ift rfl ?_ | refine kw_iff rfl ?_ | refine kl_ung rfl rfl ?_ | refine kl_skipg rfl rfl rfl rfl ?_ | refine kl_skipg0 rfl rfl rfl ?_ | (first | refine kl_move rfl rfl (.inl rfl) rfl rfl ?_ | refine kl_move rfl rfl (.inr rfl) rfl rfl ?_ | refine kl_const rfl rfl (.inl rfl) rfl ?_ | refine kl_const rfl rfl (.inr rfl) rfl ?_) | ((first | refine kl_step rfl rfl rfl fun K hK => ?_ | refine kl_step0 rfl rfl rfl fun K hK => ?_); go_simp; (try go_bits); (first | refine hK _ _ ?_ | refine hK _ ?_); clear hK K))
    refine kl_call rfl rfl rfl Try.func65 rfl (by kernel_rfl) rfl ?_
    refine Calls.mono (rdByte hR) ?_
    rintro e w4 ⟨rfl, hR4⟩
    refine ⟨_, rfl, ?_⟩
    obtain ⟨x, hx⟩ : ∃ x, (taken rl re 1).1.headD 0 = x := ⟨_, rfl⟩
    have HX := Lib.hid hx
    rw [hx]
    clear hx cg hR
    have hbx := byte_lt x
    have c2 := hR4.get (j := k) 0 rfl (hash_cell hs k HL.out hlt)
    have f2 := hR4.free 0 rfl k
    have hR5 := Lib.hid (hR4.cell 0 rfl (by omega) k (bval x))
    clear hR4
    repeat (first | refine kw_seq ?_ | refine kw_block ?_ | refine kw_skip ?_ | refine kw_region ?_ | refine kl_nil ?_ | refine kq_then ?_ | refine kq_block ?_ | refine kw_exit ?_ | refine kq_then_exit ?_ | refine kq_block_here rfl ?_ | refine kq_block_far rfl ?_ | refine kq_again_exit ?_ | refine kw_ret ?_ | refine kq_then_ret ?_ | refine kq_block_ret ?_ | refine kq_again_ret ?_ | refine kw_ift rfl ?_ | refine kw_iff rfl ?_ | refine kl_ung rfl rfl ?_ | refine kl_skipg rfl rfl rfl rfl ?_ | refine kl_skipg0 rfl rfl rfl ?_ | (first | refine kl_move rfl rfl (.inl rfl) rfl rfl ?_ | refine kl_move rfl rfl (.inr rfl) rfl rfl ?_ | refine kl_const rfl rfl (.inl rfl) rfl ?_ | refine kl_const rfl rfl (.inr rfl) rfl ?_) | ((first | refine kl_step rfl rfl rfl fun K hK => ?_ | refine kl_step0 rfl rfl rfl fun K hK => ?_); go_simp; (try go_bits); (first | refine hK _ _ ?_ | refine hK _ ?_); clear hK K))
    refine kq_again (32 - (k + 1)) [1, 2, 4] (by omega) ?_
    simp only [nrm, lk, Nat.reduceBEq, cond_true, cond_false]
    refine ⟨k + 1, by omega, rfl, ?_, by simp only [Int.natCast_add]; rfl⟩
    have := hR5.out
    rw [hash_row hs k x HL.out hlt] at this
    rw [hashN, HH.out]
    unfold hashStep
    simp only
    rw [HX.out]
    exact this
  · obtain rfl : k = 32 := by omega
    have k1 : decide (((32 : Nat) : Int) < 32) = false := by decide
    clear hlt
    rw [Nat.sub_self, List.replicate_zero, List.append_nil] at hR
    have HS := Lib.hid hlen
    clear hlen
    repeat (first | refine kw_seq ?_ | refine kw_region ?_ | refine kq_then ?_ | refine kq_block ?_ | refine kw_exit ?_ | refine kq_then_exit ?_ | refine kq_block_here rfl ?_ | refine kq_again_exit ?_ | refine kw_iff rfl ?_ | refine kl_nil ?_ | (first | refine kl_move rfl rfl (.inl rfl) rfl rfl ?_ | refine kl_move rfl rfl (.inr rfl) rfl rfl ?_ | refine kl_const rfl rfl (.inl rfl) rfl ?_ | refine kl_const rfl rfl (.inr rfl) rfl ?_) | ((first | refine kl_step rfl rfl rfl fun K hK => ?_ | refine kl_step0 rfl rfl rfl fun K hK => ?_); go_simp; (try go_bits); (first | refine hK _ _ ?_ | refine hK _ ?_); clear hK K))
    simp only at hR
    have hz : (Try.prog.info? 26).map (·.size) = some (bv hs).toArray.size := by rw [show (bv hs).toArray.size = 32 by rw [List.size_toArray, length_bv]; exact HS.out]; kernel_rfl
    refine kl_getR hR 0 rfl Try.underlying26 rfl hz rfl rfl rfl rfl rfl ?_
    refine kl_putR hR 0 rfl (by omega) hz rfl (bv_one' hs) rfl rfl rfl rfl rfl (fun hR' => ?_)
    generalize wr.setRow g2 (bv hs).toArray = w5 at *
    refine kl_nil ?_
    refine kq_then ?_
    refine kw_ret ?_
    refine kq_retv (fun a k => results_cell_row rfl _ _ g2 26 (bv hs).toArray (0, 0) _ (k.slot 2 rfl) (hR'.at_ 0 rfl) Try.underlying26 rfl hz) ?_
    unfold HashP
    rw [HH.out]
    exact ⟨rfl, hR'.rd, hR'.grown⟩
theorem rdHash {w0 W : World} {V : Vars} {g : Nat} {l : List UInt8} {e : Int} (h : Rd true w0 W V g l e) : Calls Try.prog 49 #[.agg #[.pointer (some ⟨g, 0, none⟩)]] W fun r W' => r = .returned (.agg (bv (hashN 32 ([], l, e)).1).toArray) ∧ Rd true w0 W' V g (hashN 32 ([], l, e)).2.1 (hashN 32 ([], l, e)).2.2 :=
  Calls.mono (hash_any g l e W h.rd) fun _ _ ⟨h1, h2, h3⟩ => ⟨h1, h.step h3 h2⟩
end Go.Proofs.Ytkgenkkcgegcbaa
