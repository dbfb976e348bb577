/- A reader on its way, and variables in blocks of their own. The flash memory's block: what it reads as; what stores into it leave. The sparse walk's laws for a call of a function value, and for copy. -/
import Derived.Test.YtcpifcdndhhmgaaRetP
import Derived.Test.YtcpifcdndhhmgaaRefReader
import Derived.Test.YtcpifcdndhhmgaaLay
import Derived.Test.YtcpifcdndhhmgaaKnF
import Derived.Laws.CopyRow
import Derived.Test.YtcpifcdndhhmgaaChecked
import Derived.Test.YtcpifcdndhhmgaaClone
import Derived.Test.YtcpifcdndhhmgaaSealPlain
import Derived.Laws.Tables
import Derived.Laws.CopyOwn
import Derived.Test.YtcpifcdndhhmgaaFill
set_option linter.unusedVariables false
set_option linter.unusedSimpArgs false
namespace Go.Proofs.Ytcpifcdndhhmgaa
open Go.RowKit
theorem LayV.grown {w w' : World} {B g : Nat} (hg : w.grownBy w' (some g)) : ∀ {V : Vars}, LayV w B V → (∀ p ∈ V, p.1 ≠ g) → LayV w' B V
  | [], _, _ => trivial
  | (b, cs, t) :: V, h, hne => ⟨h.1, by
      have hb : b ≠ g := hne (b, cs, t) (by simp)
      rw [hg.block b (Array.getElem?_eq_some_iff.1 h.2.1).1 (fun e => hb (by injection e))]; exact h.2.1, h.2.2.1, LayV.grown hg h.2.2.2 fun p hp => hne p (by simp [hp])⟩
/-- a reader's state: the code's, the document's -/
def RSt : Bool → World → Nat → List UInt8 → Int → Prop
  | true, W, g, l, e => CRP (fun b => b < g) W g l e
  | false, W, g, l, e => RR W g g l e
theorem RSt.below {k : Bool} {W W' : World} {g : Nat} {l : List UInt8} {e : Int} (h : RSt k W g l e) (hb : Below W.heap.size W W') : RSt k W' g l e := by
  cases k
  · exact RR.below h hb
  · exact CRP.below h hb
theorem RSt.other {k : Bool} {W W' : World} {g g2 : Nat} {l : List UInt8} {e : Int} (h : RSt k W g l e) (hg : W.grownBy W' (some g2)) (hlt : g < g2) : RSt k W' g l e := by
  cases k
  · exact RR.other h hg (by omega) (Nat.le_of_lt hlt)
  · exact CRP.other h hg (by omega) (fun b hb => by omega)
theorem RSt.lt {k : Bool} {W : World} {g : Nat} {l : List UInt8} {e : Int} (h : RSt k W g l e) : g < W.heap.size := by
  cases k
  · obtain ⟨A, N, c, p, L, hg, _⟩ := h
    exact (Array.getElem?_eq_some_iff.1 hg).1
  · obtain ⟨A, n, c, hg, _⟩ := h
    exact (Array.getElem?_eq_some_iff.1 hg).1
structure Rd (k : Bool) (w0 W : World) (V : Vars) (g : Nat) (l : List UInt8) (e : Int) : Prop where
  grown : w0.grownBy W (some g)
  vars : LayV W w0.heap.size V
  rd : RSt k W g l e
  apart : ∀ p ∈ V, p.1 ≠ g
section
variable {k : Bool} {w0 W W' : World} {V : Vars} {g : Nat} {l l' : List UInt8} {e e' : Int}
theorem grown_row (W : World) (b : Nat) (cs : Array Value) : W.grownBy (W.setRow b cs) (some b) :=
  ⟨rfl, rfl, rfl, by simp [World.setRow], fun i _ hne => by rw [setRow_other _ _ _ _ (fun h => hne (by rw [h]))]⟩
theorem Rd.start (h : RSt k W g l e) : Rd k W W [] g l e := ⟨grown_refl _ _, trivial, h, fun p hp => by cases hp⟩
theorem Rd.of_lay (hL : Lay w0 W V) (h : RSt k W g l e) (ha : ∀ p ∈ V, p.1 ≠ g) : Rd k w0 W V g l e := ⟨⟨hL.below.os, hL.below.tape, hL.below.output, hL.below.size, fun i hi _ => hL.below.block i hi⟩, hL.vars, h, ha⟩
theorem Rd.lay (h : Rd k w0 W V g l e) (hB : w0.heap.size ≤ g) : Lay w0 W V := ⟨⟨h.grown.os, h.grown.tape, h.grown.output, h.grown.size, fun i hi => h.grown.block i hi (fun hh => by injection hh with hh; omega)⟩, h.vars⟩
theorem Rd.step (h : Rd k w0 W V g l e) (hg : W.grownBy W' (some g)) (hr : RSt k W' g l' e') : Rd k w0 W' V g l' e' := ⟨grown_trans h.grown hg, h.vars.grown hg h.apart, hr, h.apart⟩
theorem Rd.next (h : Rd k w0 W V g l e) (hb : Below W.heap.size W W') : Rd k w0 W' V g l e := h.step (grown_below hb _) (h.rd.below hb)
theorem Rd.drew (h : Rd k w0 W V g l e) : Rd k w0 W.drew V g l e := h.next (Below.refl _ _).drew
theorem Rd.alloc (h : Rd k w0 W V g l e) (cs : Array Value) (t : TypeId) : Rd k w0 (W.alloc (.cells cs t)) ((W.heap.size, cs, t) :: V) g l e := by
  have hb : Below W.heap.size W (W.alloc (.cells cs t)) := (Below.refl _ _).alloc (Nat.le_refl _) _
  have hn := h.next hb
  refine ⟨hn.grown, ⟨h.grown.size, heap_alloc_new _ _, h.vars.lt, hn.vars⟩, hn.rd, fun p hp => ?_⟩
  rcases List.mem_cons.1 hp with rfl | hp
  · exact Nat.ne_of_gt h.rd.lt
  · exact h.apart p hp
theorem Rd.at_ (h : Rd k w0 W V g l e) (i : Nat) {b : Nat} {cs : Array Value} {t : TypeId} (hi : V[i]? = some (b, cs, t)) : W.heap[b]? = some (.cells cs t (0, 0)) := (h.vars.get i hi).2
theorem Rd.get (h : Rd k w0 W V g l e) (i : Nat) {b : Nat} {cs : List Value} {t : TypeId} (hi : V[i]? = some (b, cs.toArray, t)) {j : Nat} {u : Value} (hu : cs[j]? = some u) : W.cell? ⟨b, j, none⟩ = some u := cell_of_block (h.at_ i hi) (by rw [List.getElem?_toArray]; exact hu)
theorem Rd.free (h : Rd k w0 W V g l e) (i : Nat) {b : Nat} {cs : Array Value} {t : TypeId} (hi : V[i]? = some (b, cs, t)) (j : Nat) : W.frozen? ⟨b, j, none⟩ = false := free_of_block (h.at_ i hi)
theorem Rd.row (h : Rd k w0 W V g l e) (i : Nat) {b : Nat} {cs : Array Value} {t : TypeId} (hi : V[i]? = some (b, cs, t)) (hgt : g < b) (cs' : Array Value) : Rd k w0 (W.setRow b cs') (V.set i (b, cs', t)) g l e := by
  have hge := (h.vars.get i hi).1
  have hg2 := grown_row W b cs'
  refine ⟨⟨h.grown.os, h.grown.tape, h.grown.output, Nat.le_trans h.grown.size hg2.size, fun j hj hne => ?_⟩, h.vars.put i hi (setRow_block (h.at_ i hi)) (fun k x hk hx => by rw [setRow_other _ _ _ _ hk]; exact hx), h.rd.other hg2 hgt, fun p hp => ?_⟩
  · rw [setRow_other _ _ _ _ (by omega)]; exact h.grown.block j hj hne
  · rcases List.mem_or_eq_of_mem_set hp with hp | rfl
    · exact h.apart p hp
    · exact Nat.ne_of_gt hgt
theorem Rd.cell (h : Rd k w0 W V g l e) (i : Nat) {b : Nat} {cs : List Value} {t : TypeId} (hi : V[i]? = some (b, cs.toArray, t)) (hgt : g < b) (j : Nat) (u : Value) : Rd k w0 (W.setCell ⟨b, j, none⟩ u) (V.set i (b, (cs.set j u).toArray, t)) g l e := by
  have := h.row i hi hgt (cs.set j u).toArray
  rw [setCell_eq_setRow W b j _ t (0, 0) u (h.at_ i hi), List.setIfInBounds_toArray]
  exact this
end
section
variable {P : Program} {Q : Exit → Act → World → Prop} {N : Nat} {L : Slots} {k : Bool} {w0 w : World} {V : Vars} {g : Nat} {l : List UInt8} {er : Int} {ops : Array Oper} {rest : List Oper} {o o' : Oper}
end
/-! ### what the readers' functions do -/
section
variable {w0 W : World} {V : Vars} {g : Nat} {l : List UInt8} {e : Int}
theorem hlt (g : Nat) : ∀ b, (fun b => b < g) b → b ≠ g := fun _ h => Nat.ne_of_lt h
theorem rdInt (h : Rd true w0 W V g l e) : Calls Try.prog 81 #[.pointer (some ⟨g, 0, none⟩)] W fun r W' => r = .returned (.int .i64 (tkN (taken l e 8))) ∧ Rd true w0 W' V g (taken l e 8).2.1 (taken l e 8).2.2 :=
  Calls.mono (readInt_Q _ g (hlt g) l e W h.rd) fun _ _ ⟨h1, h2, h3⟩ => ⟨h1, h.step h3 h2⟩
theorem rdByte (h : Rd true w0 W V g l e) : Calls Try.prog 82 #[.pointer (some ⟨g, 0, none⟩)] W fun r W' => r = .returned (.int .i64 (((taken l e 1).1.headD 0).toNat : Int)) ∧ Rd true w0 W' V g (taken l e 1).2.1 (taken l e 1).2.2 :=
  Calls.mono (readByte_Q _ g (hlt g) l e W h.rd) fun _ _ ⟨h1, h2, h3⟩ => ⟨by rw [h1, leN_head _ (taken_len l e 1)], h.step h3 h2⟩
theorem rdText (h : Rd true w0 W V g l e) : Calls Try.prog 84 #[.pointer (some ⟨g, 0, none⟩)] W fun r W' => r = .returned (.string ⟨(textOf l e).1.toArray⟩) ∧ Rd true w0 W' V g (textOf l e).2.1 (textOf l e).2.2 :=
  Calls.mono (readText_Q _ g (hlt g) l e W h.rd) fun _ _ ⟨h1, h2, h3⟩ => ⟨h1, h.step h3 h2⟩
theorem rdFail (f : Int) (h : Rd true w0 W V g l e) : Calls Try.prog 83 #[.pointer (some ⟨g, 0, none⟩), .int .i64 f] W fun r W' => r = .returned (.tuple #[]) ∧ Rd true w0 W' V g l (if e = 0 then f else e) :=
  Calls.mono (fail_Q _ g (hlt g) l e f W h.rd) fun _ _ ⟨h1, h2, h3⟩ => ⟨h1, h.step h3 h2⟩
theorem rdEnd (h : Rd true w0 W V g l e) : Calls Try.prog 85 #[.pointer (some ⟨g, 0, none⟩)] W fun r W' => r = .returned (.int .i64 (ended l e)) ∧ Rd true w0 W' V g l e ∧ Below W.heap.size W W' :=
  Calls.mono (end_Q _ g (hlt g) l e W h.rd) fun _ _ ⟨h1, h2⟩ => ⟨h1, by subst h2; exact ⟨h, Below.refl _ _⟩⟩
theorem rdNew (A : Option Addr) (n c : Nat) (l : List UInt8) (hL : Lay w0 W V) (hA : Bs W A n l) (hn : n ≤ 140737488355328) :
    Calls Try.prog 80 #[.slice A n c] W fun r W' => ∃ g, r = .returned (.pointer (some ⟨g, 0, none⟩)) ∧ W.heap.size ≤ g ∧ Rd true w0 W' V g l 0 :=
  Calls.mono (new_Q A n c l W hA hn) fun _ _ ⟨g, h1, h2, h3, h4, h5⟩ => ⟨g, h1, h2, Rd.of_lay (hL.next h5) h4 fun p hp => by have := hL.vars.lt p hp; omega⟩
end
end Go.Proofs.Ytcpifcdndhhmgaa
set_option linter.unusedVariables false
set_option linter.unusedSimpArgs false
namespace Go.Proofs.Ytcpifcdndhhmgaa
open Go.RowKit

def flashCells (f : FlashSt) (A : Option Addr) (n c : Nat) : List Value := .int .i64 f.left :: .int .i64 f.done :: .slice A n c :: .bool f.dead :: bv f.S
/-- the memory at block g; its mask lies in blocks of Q -/
def FS (Q : Nat → Prop) (W : World) (g : Nat) (f : FlashSt) : Prop :=
  ∃ A n c, W.heap[g]? = some (.cells (flashCells f A n c).toArray 43 (0, 0)) ∧ f.S.length = 6144 ∧ 0 ≤ f.left ∧ f.left ≤ 9223372036854775807 ∧ Bs W A n f.mask ∧ n ≤ c ∧ c ≤ 9223372036854775807 ∧ InQ Q A

section
variable {W : World} {g : Nat} {f : FlashSt} {A : Option Addr} {n c : Nat}
theorem fl_left (h : W.heap[g]? = some (.cells (flashCells f A n c).toArray 43 (0, 0))) : W.cell? ⟨g, 0, none⟩ = some (.int .i64 f.left) := cell_of_block h rfl
theorem fl_done (h : W.heap[g]? = some (.cells (flashCells f A n c).toArray 43 (0, 0))) : W.cell? ⟨g, 1, none⟩ = some (.int .i64 f.done) := cell_of_block h rfl
theorem fl_mask (h : W.heap[g]? = some (.cells (flashCells f A n c).toArray 43 (0, 0))) : W.cell? ⟨g, 2, none⟩ = some (.slice A n c) := cell_of_block h rfl
theorem fl_dead (h : W.heap[g]? = some (.cells (flashCells f A n c).toArray 43 (0, 0))) : W.cell? ⟨g, 3, none⟩ = some (.bool f.dead) := cell_of_block h rfl
theorem fl_byte (h : W.heap[g]? = some (.cells (flashCells f A n c).toArray 43 (0, 0))) {i : Nat} (hi : i < f.S.length) : W.cell? ⟨g, 4 + i, none⟩ = some (.int .u8 ((f.S.getD i 0).toNat : Int)) := by
  refine cell_of_block h ?_
  rw [List.getElem?_toArray, Nat.add_comm 4 i]
  show (bv f.S)[i]? = _
  rw [bv_get _ _ hi]
  simp [hi]
/-- bytes of the sectors as a slice -/
theorem fl_bytes (h : W.heap[g]? = some (.cells (flashCells f A n c).toArray 43 (0, 0))) (off k : Nat) (hk : off + k ≤ f.S.length) : Bs W (some ⟨g, 4 + off, none⟩) k ((f.S.drop off).take k) := by
  refine ⟨by simp [bv]; omega, fun _ => ⟨g, 4 + off, rfl, fun i u hu => ?_⟩⟩
  have hi : i < k := by
    have := (List.getElem?_eq_some_iff.1 hu).1
    simp [bv] at this
    omega
  have := fl_byte h (i := off + i) (by omega)
  rw [show 4 + off + i = 4 + (off + i) by omega, this, ← hu]
  rw [bv_get _ _ (by simp; omega)]
  simp
  rw [List.getElem?_eq_getElem (by omega)]
  rfl
theorem fl_setLeft (v : Int) : (flashCells f A n c).toArray.setIfInBounds 0 (.int .i64 v) = (flashCells { f with left := v } A n c).toArray := rfl
theorem fl_setDone (v : Int) : (flashCells f A n c).toArray.setIfInBounds 1 (.int .i64 v) = (flashCells { f with done := v } A n c).toArray := rfl
theorem fl_setDead (v : Bool) : (flashCells f A n c).toArray.setIfInBounds 3 (.bool v) = (flashCells { f with dead := v } A n c).toArray := rfl
theorem fl_setByte (i : Nat) (x : UInt8) : (flashCells f A n c).toArray.setIfInBounds (4 + i) (.int .u8 (x.toNat : Int)) = (flashCells { f with S := f.S.set i x } A n c).toArray := by
  rw [List.setIfInBounds_toArray, Nat.add_comm 4 i]
  show (_ :: _ :: _ :: _ :: (bv f.S).set i _ : List Value).toArray = _
  rw [bv_set']
  rfl
theorem fl_setByte2 (i j : Nat) (x : UInt8) : (flashCells f A n c).toArray.setIfInBounds (4 + i + j) (.int .u8 (x.toNat : Int)) = (flashCells { f with S := f.S.set (i + j) x } A n c).toArray := by
  rw [Nat.add_assoc]; exact fl_setByte (i + j) x
end

theorem FS.lt {Q : Nat → Prop} {W : World} {g : Nat} {f : FlashSt} (h : FS Q W g f) : g < W.heap.size := by
  obtain ⟨A, n, c, hg, _⟩ := h
  exact (Array.getElem?_eq_some_iff.1 hg).1
theorem FS.below {Q : Nat → Prop} {W W' : World} {g : Nat} {f : FlashSt} (h : FS Q W g f) (hb : Below W.heap.size W W') : FS Q W' g f := by
  obtain ⟨A, n, c, hg, h1, h2, h3, hB, hn, hc, ha⟩ := h
  exact ⟨A, n, c, by rw [hb.block g (Array.getElem?_eq_some_iff.1 hg).1]; exact hg, h1, h2, h3, hB.below hb, hn, hc, ha⟩
/-- another block was written -/
theorem FS.other {Q : Nat → Prop} {W W' : World} {g g2 : Nat} {f : FlashSt} (h : FS Q W g f) (hg2 : W.grownBy W' (some g2)) (hne : g ≠ g2) (hQ : ∀ b, Q b → b ≠ g2) : FS Q W' g f := by
  obtain ⟨A, n, c, hg, h1, h2, h3, hB, hn, hc, ha⟩ := h
  refine ⟨A, n, c, ?_, h1, h2, h3, hB.grownKeep hg2 (ha.away hQ), hn, hc, ha⟩
  rw [hg2.block g (Array.getElem?_eq_some_iff.1 hg).1 (fun h => hne (by injection h))]
  exact hg

/-- copy of bytes into bytes of one's own -/
theorem copyB {w : World} {ops : Array Oper} {rest : List Oper} {o : Oper} {a : Act} {Q : Exit → Act → World → Prop} (hgd : o.guard = none) (d s : Operand)
    (ho : o.op = .call { callee := .builtin .copy, args := #[d, s], argTypes := #[27, 27] })
    (g off dLen dCap : Nat) (A : Option Addr) (m c : Nat) (k : List UInt8) (hd : a.eval d = .slice (some ⟨g, off, none⟩) dLen dCap) (hs : a.eval s = .slice A m c) (hA : Bs w A m k)
    (cur : List Value) (t : TypeId) (hg : w.heap[g]? = some (.cells cur.toArray t (0, 0))) (hfit : off + min m dLen ≤ cur.length) (B : Nat) (w0 : World) (hb : Below B w0 w) (hBg : B ≤ g)
    (h : ∀ w', Hid (w'.heap[g]? = some (.cells (splice cur off (bv (k.take (min m dLen)))).toArray t (0, 0))) → Below B w0 w' → wpList Try.prog ops Q rest (a.put o.dst (.int .i64 (min m dLen : Nat))) w') :
    wpList Try.prog ops Q (o :: rest) a w := by
  obtain ⟨i0, hi0, hz0, hz1, hz2⟩ := info_parts byteInfo
  have hkl := hA.len
  have hl : (bv (k.take (min m dLen))).length = min m dLen := by rw [length_bv, List.length_take, hkl]; omega
  have hmin : min m dLen = Nat.min m dLen := rfl
  refine wpList_copy_splice hgd d s 27 27 ho 5 Try.underlying27 (by rw [hi0]; simp [hz1]) (some ⟨g, off, none⟩) A dLen dCap m c hd hs g off cur t hg (bv (k.take (min m dLen))) (by rw [hl]) (fun hpos => ?_) (by rw [hl]; exact hfit) (bv_one _) B w0 hb hBg ?_
  · rw [hl] at hpos
    obtain ⟨b, o', e, hc⟩ := hA.2 (by omega)
    subst e
    refine ⟨rfl, _, rfl, fun j v hj => ?_⟩
    rw [Addr.add_lit]
    refine hc j v ?_
    rw [bv_take, List.getElem?_take] at hj
    split at hj
    · exact hj
    · cases hj
  · intro w' hw' hb'
    have := h w' hw' hb'
    rw [hl]
    exact this

/-! ### a blank memory is laid -/
def zeroByte : Value → Bool
  | .int .u8 (.ofNat 0) => true
  | _ => false
theorem zeroByte_eq {v : Value} (h : zeroByte v = true) : v = .int .u8 0 := by
  unfold zeroByte at h
  split at h
  · rfl
  · cases h
def zerosB : Nat → List Value → Bool
  | 0, [] => true
  | n + 1, v :: r => zeroByte v && zerosB n r
  | _, _ => false
theorem zerosB_eq : ∀ (n : Nat) (l : List Value), zerosB n l = true → l = List.replicate n (.int .u8 0)
  | 0, [], _ => rfl
  | n + 1, v :: r, h => by
    simp only [zerosB, Bool.and_eq_true] at h
    rw [List.replicate_succ, zeroByte_eq h.1, ← zerosB_eq n r h.2]
  | 0, _ :: _, h => by simp [zerosB] at h
  | _ + 1, [], h => by simp [zerosB] at h
def flashZeroB (n : Nat) : Value → Bool
  | .agg cs => match cs.toList with
    | .int .i64 (.ofNat 0) :: .int .i64 (.ofNat 0) :: .slice none 0 0 :: .bool false :: r => zerosB n r
    | _ => false
  | _ => false
theorem bv_zeros (n : Nat) : bv (List.replicate n 0) = List.replicate n (.int .u8 0) := by simp [bv]
theorem flashZeroB_eq {n : Nat} {v : Value} (h : flashZeroB n v = true) : v = .agg (flashCells ⟨0, 0, [], false, List.replicate n 0⟩ none 0 0).toArray := by
  unfold flashZeroB at h
  split at h
  · rename_i cs
    split at h
    · rename_i r hr
      have := zerosB_eq _ _ h
      subst this
      congr 1
      apply Array.toList_inj.1
      rw [hr]
      show _ = _ :: _ :: _ :: _ :: bv (List.replicate n 0)
      rw [bv_zeros]
      rfl
    · cases h
  · cases h
set_option maxRecDepth 1000000 in
theorem flashZero_ok : ((Try.prog.info? 43).bind (·.zero)).map (flashZeroB 6144) = some true := by kernel_rfl
theorem zero_run {P : Program} {t : TypeId} {it : TypeInfo} {z : Value} (hi : P.info? t = some it) (hz : it.zero = some z) (w : World) : (zeroValue t).run P w = .ok z w := by
  simp [zeroValue, typeInfo, hi, hz]
theorem run_zeroFlash (w : World) : (zeroValue 43).run Try.prog w = .ok (.agg (flashCells ⟨0, 0, [], false, List.replicate 6144 0⟩ none 0 0).toArray) w := by
  have h := flashZero_ok
  cases hi : Try.prog.info? 43 with
  | none => rw [hi] at h; cases h
  | some it =>
    rw [hi] at h
    cases hz : it.zero with
    | none => simp [hz] at h
    | some z =>
      simp only [Option.bind_some, hz, Option.map_some, Option.some.injEq] at h
      rw [← flashZeroB_eq h]
      exact zero_run hi hz w
end Go.Proofs.Ytcpifcdndhhmgaa
set_option linter.unusedVariables false
set_option linter.unusedSimpArgs false
namespace Go.Proofs.Ytcpifcdndhhmgaa
open Go.RowKit
section
variable {P : Program} {Q : Exit → Act → World → Prop} {n : Nat} {L : Slots} {w : World} {ops : Array Oper} {rest : List Oper} {o : Oper}
theorem kl_callv {d t : Nat} {f : FuncId} {fn : Func} {c : Code} {xs : List Operand} {ts : Array TypeId} {lb : Array Value} (hd : o.dst = some d) (hg : o.guard = none) (ho : o.op = .call { callee := .value (.tmp t), args := xs.toArray, argTypes := ts })
    (ht : lk L t = some (.func (.func f) #[] lb)) (hf : P.funcs[f]? = some fn) (hb : fn.body = some c) (hn : (fn.name == "runtime.NumGoroutine") = false) (hk : (xs.all (okx L) && Nat.blt d n) = true)
    (h : Calls P f ((xs.map (ev L)).toArray ++ lb) w fun e w' => ∃ v, e = .returned v ∧ KL P ops Q rest n ((d, v) :: L) w') : KL P ops Q (o :: rest) n L w := by
  have hk' := hk
  simp only [Bool.and_eq_true] at hk'
  have hv : ev L (.tmp t) = .func (.func f) #[] lb := by simp [ev, ht]
  refine kl_step hd hg ?_ fun K hK => ?_
  · simp only [ho, okop, Bool.and_eq_true]
    exact ⟨⟨hk'.1, by simp [okx, ht]⟩, hk'.2⟩
  · have he : execOp (ev L) o = callFunc f (#[] ++ xs.toArray.map (ev L) ++ lb) := by
      obtain ⟨dst, op, type, pos, after, guard⟩ := o
      subst ho
      simp only [execOp, resolve, hv]
      rfl
    rw [he, run_callFunc hf hb hn]
    simp only [Array.empty_append, List.map_toArray]
    refine Calls.mono h ?_
    rintro e w'' ⟨v, rfl, hv⟩
    exact ⟨v, rfl, hK _ _ hv⟩
end
section
variable {Q : Exit → Act → World → Prop} {n : Nat} {L : Slots} {w : World} {ops : Array Oper} {rest : List Oper} {o : Oper}
/-- copy of bytes into bytes of the call's own -/
theorem kl_copy {d x y : Nat} (hd : o.dst = some d) (hg : o.guard = none) (ho : o.op = .call { callee := .builtin .copy, args := #[.tmp x, .tmp y], argTypes := #[27, 27] })
    (g off dLen dCap : Nat) (A : Option Addr) (m c : Nat) (k : List UInt8) (hx : lk L x = some (.slice (some ⟨g, off, none⟩) dLen dCap)) (hy : lk L y = some (.slice A m c)) (hA : Bs w A m k)
    (cur : List Value) (t : TypeId) (hcur : w.heap[g]? = some (.cells cur.toArray t (0, 0))) (hfit : off + min m dLen ≤ cur.length) (B : Nat) (w0 : World) (hb : Below B w0 w) (hBg : B ≤ g) (hn : Nat.blt d n = true)
    (h : ∀ w', Hid (w'.heap[g]? = some (.cells (splice cur off (bv (k.take (min m dLen)))).toArray t (0, 0))) → Below B w0 w' → KL Try.prog ops Q rest n ((d, .int .i64 (min m dLen : Nat)) :: L) w') : KL Try.prog ops Q (o :: rest) n L w :=
  ⟨fun a ka => copyB hg (.tmp x) (.tmp y) ho g off dLen dCap A m c k (ka.ev hx) (ka.ev hy) hA cur t hcur hfit B w0 hb hBg fun w' h1 h2 => kl_back ka hd hn (h w' h1 h2)⟩
end
end Go.Proofs.Ytcpifcdndhhmgaa
