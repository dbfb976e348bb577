/- The flash memory's block: what it reads as; what stores into it leave. The sparse walk's laws for a call of a function value, and for copy. -/
import Derived.Test.YtcpifcdndhhmgaaChecked
import Derived.Test.YtcpifcdndhhmgaaConcat
import Derived.Test.YtcpifcdndhhmgaaFlashPlain
import Derived.Laws.Tables
import Derived.Laws.CopyOwn
import Derived.Test.YtcpifcdndhhmgaaKnOps
set_option linter.unusedVariables false
set_option linter.unusedSimpArgs false
namespace Go.Proofs.Ytcpifcdndhhmgaa
open Go.RowKit

def flashCells (f : FlashSt) (A : Option Addr) (n c : Nat) : List Value := .int .i64 f.left :: .int .i64 f.done :: .slice A n c :: .bool f.dead :: bv f.S
/-- the memory at block g; its mask lies in blocks of Q -/
def FS (Q : Nat → Prop) (W : World) (g : Nat) (f : FlashSt) : Prop :=
  ∃ A n c, W.heap[g]? = some (.cells (flashCells f A n c).toArray 43 (0, 0)) ∧ f.S.length = 6144 ∧ 0 ≤ f.left ∧ f.left ≤ 9223372036854775807 ∧ Bs W A n f.mask ∧ n ≤ c ∧ c ≤ 9223372036854775807 ∧ InQ Q A

section
variable {W : World} {g : Nat} {f : FlashSt} {A : Option Addr} {n c : Nat}
theorem fl_left (h : W.heap[g]? = some (.cells (flashCells f A n c).toArray 43 (0, 0))) : W.cell? ⟨g, 0, none⟩ = some (.int .i64 f.left) := cell_of_block h rfl
theorem fl_done (h : W.heap[g]? = some (.cells (flashCells f A n c).toArray 43 (0, 0))) : W.cell? ⟨g, 1, none⟩ = some (.int .i64 f.done) := cell_of_block h rfl
theorem fl_mask (h : W.heap[g]? = some (.cells (flashCells f A n c).toArray 43 (0, 0))) : W.cell? ⟨g, 2, none⟩ = some (.slice A n c) := cell_of_block h rfl
theorem fl_dead (h : W.heap[g]? = some (.cells (flashCells f A n c).toArray 43 (0, 0))) : W.cell? ⟨g, 3, none⟩ = some (.bool f.dead) := cell_of_block h rfl
theorem fl_byte (h : W.heap[g]? = some (.cells (flashCells f A n c).toArray 43 (0, 0))) {i : Nat} (hi : i < f.S.length) : W.cell? ⟨g, 4 + i, none⟩ = some (.int .u8 ((f.S.getD i 0).toNat : Int)) := by
  refine cell_of_block h ?_
  rw [List.getElem?_toArray, Nat.add_comm 4 i]
  show (bv f.S)[i]? = _
  rw [bv_get _ _ hi]
  simp [hi]
/-- bytes of the sectors as a slice -/
theorem fl_bytes (h : W.heap[g]? = some (.cells (flashCells f A n c).toArray 43 (0, 0))) (off k : Nat) (hk : off + k ≤ f.S.length) : Bs W (some ⟨g, 4 + off, none⟩) k ((f.S.drop off).take k) := by
  refine ⟨by simp [bv]; omega, fun _ => ⟨g, 4 + off, rfl, fun i u hu => ?_⟩⟩
  have hi : i < k := by
    have := (List.getElem?_eq_some_iff.1 hu).1
    simp [bv] at this
    omega
  have := fl_byte h (i := off + i) (by omega)
  rw [show 4 + off + i = 4 + (off + i) by omega, this, ← hu]
  rw [bv_get _ _ (by simp; omega)]
  simp
  rw [List.getElem?_eq_getElem (by omega)]
  rfl
theorem fl_setLeft (v : Int) : (flashCells f A n c).toArray.setIfInBounds 0 (.int .i64 v) = (flashCells { f with left := v } A n c).toArray := rfl
theorem fl_setDone (v : Int) : (flashCells f A n c).toArray.setIfInBounds 1 (.int .i64 v) = (flashCells { f with done := v } A n c).toArray := rfl
theorem fl_setMask (B : Option Addr) (m d : Nat) (l : List UInt8) : (flashCells f A n c).toArray.setIfInBounds 2 (.slice B m d) = (flashCells { f with mask := l } B m d).toArray := rfl
theorem fl_setDead (v : Bool) : (flashCells f A n c).toArray.setIfInBounds 3 (.bool v) = (flashCells { f with dead := v } A n c).toArray := rfl
theorem fl_setByte (i : Nat) (x : UInt8) : (flashCells f A n c).toArray.setIfInBounds (4 + i) (.int .u8 (x.toNat : Int)) = (flashCells { f with S := f.S.set i x } A n c).toArray := by
  rw [List.setIfInBounds_toArray, Nat.add_comm 4 i]
  show (_ :: _ :: _ :: _ :: (bv f.S).set i _ : List Value).toArray = _
  rw [bv_set']
  rfl
theorem fl_setByte2 (i j : Nat) (x : UInt8) : (flashCells f A n c).toArray.setIfInBounds (4 + i + j) (.int .u8 (x.toNat : Int)) = (flashCells { f with S := f.S.set (i + j) x } A n c).toArray := by
  rw [Nat.add_assoc]; exact fl_setByte (i + j) x
end

theorem FS.weak {Q Q' : Nat → Prop} {W : World} {g : Nat} {f : FlashSt} (h : FS Q W g f) (hq : ∀ b, Q b → Q' b) : FS Q' W g f := by
  obtain ⟨A, n, c, hg, h1, h2, h3, hB, hn, hc, ha⟩ := h
  exact ⟨A, n, c, hg, h1, h2, h3, hB, hn, hc, fun a e => hq _ (ha a e)⟩
theorem FS.lt {Q : Nat → Prop} {W : World} {g : Nat} {f : FlashSt} (h : FS Q W g f) : g < W.heap.size := by
  obtain ⟨A, n, c, hg, _⟩ := h
  exact (Array.getElem?_eq_some_iff.1 hg).1
theorem FS.below {Q : Nat → Prop} {W W' : World} {g : Nat} {f : FlashSt} (h : FS Q W g f) (hb : Below W.heap.size W W') : FS Q W' g f := by
  obtain ⟨A, n, c, hg, h1, h2, h3, hB, hn, hc, ha⟩ := h
  exact ⟨A, n, c, by rw [hb.block g (Array.getElem?_eq_some_iff.1 hg).1]; exact hg, h1, h2, h3, hB.below hb, hn, hc, ha⟩
/-- another block was written -/
theorem FS.other {Q : Nat → Prop} {W W' : World} {g g2 : Nat} {f : FlashSt} (h : FS Q W g f) (hg2 : W.grownBy W' (some g2)) (hne : g ≠ g2) (hQ : ∀ b, Q b → b ≠ g2) : FS Q W' g f := by
  obtain ⟨A, n, c, hg, h1, h2, h3, hB, hn, hc, ha⟩ := h
  refine ⟨A, n, c, ?_, h1, h2, h3, hB.grownKeep hg2 (ha.away hQ), hn, hc, ha⟩
  rw [hg2.block g (Array.getElem?_eq_some_iff.1 hg).1 (fun h => hne (by injection h))]
  exact hg

/-- copy of bytes into bytes of one's own -/
theorem copyB {w : World} {ops : Array Oper} {rest : List Oper} {o : Oper} {a : Act} {Q : Exit → Act → World → Prop} (hgd : o.guard = none) (d s : Operand)
    (ho : o.op = .call { callee := .builtin .copy, args := #[d, s], argTypes := #[27, 27] })
    (g off dLen dCap : Nat) (A : Option Addr) (m c : Nat) (k : List UInt8) (hd : a.eval d = .slice (some ⟨g, off, none⟩) dLen dCap) (hs : a.eval s = .slice A m c) (hA : Bs w A m k)
    (cur : List Value) (t : TypeId) (hg : w.heap[g]? = some (.cells cur.toArray t (0, 0))) (hfit : off + min m dLen ≤ cur.length) (B : Nat) (w0 : World) (hb : Below B w0 w) (hBg : B ≤ g)
    (h : ∀ w', Hid (w'.heap[g]? = some (.cells (splice cur off (bv (k.take (min m dLen)))).toArray t (0, 0))) → Below B w0 w' → wpList Try.prog ops Q rest (a.put o.dst (.int .i64 (min m dLen : Nat))) w') :
    wpList Try.prog ops Q (o :: rest) a w := by
  obtain ⟨i0, hi0, hz0, hz1, hz2⟩ := info_parts byteInfo
  have hkl := hA.len
  have hl : (bv (k.take (min m dLen))).length = min m dLen := by rw [length_bv, List.length_take, hkl]; omega
  have hmin : min m dLen = Nat.min m dLen := rfl
  refine wpList_copy_splice hgd d s 27 27 ho 5 Try.underlying27 (by rw [hi0]; simp [hz1]) (some ⟨g, off, none⟩) A dLen dCap m c hd hs g off cur t hg (bv (k.take (min m dLen))) (by rw [hl]) (fun hpos => ?_) (by rw [hl]; exact hfit) (bv_one _) B w0 hb hBg ?_
  · rw [hl] at hpos
    obtain ⟨b, o', e, hc⟩ := hA.2 (by omega)
    subst e
    refine ⟨rfl, _, rfl, fun j v hj => ?_⟩
    rw [Addr.add_lit]
    refine hc j v ?_
    rw [bv_take, List.getElem?_take] at hj
    split at hj
    · exact hj
    · cases hj
  · intro w' hw' hb'
    have := h w' hw' hb'
    rw [hl]
    exact this

/-! ### a blank memory is laid -/
def zeroByte : Value → Bool
  | .int .u8 (.ofNat 0) => true
  | _ => false
theorem zeroByte_eq {v : Value} (h : zeroByte v = true) : v = .int .u8 0 := by
  unfold zeroByte at h
  split at h
  · rfl
  · cases h
def zerosB : Nat → List Value → Bool
  | 0, [] => true
  | n + 1, v :: r => zeroByte v && zerosB n r
  | _, _ => false
theorem zerosB_eq : ∀ (n : Nat) (l : List Value), zerosB n l = true → l = List.replicate n (.int .u8 0)
  | 0, [], _ => rfl
  | n + 1, v :: r, h => by
    simp only [zerosB, Bool.and_eq_true] at h
    rw [List.replicate_succ, zeroByte_eq h.1, ← zerosB_eq n r h.2]
  | 0, _ :: _, h => by simp [zerosB] at h
  | _ + 1, [], h => by simp [zerosB] at h
def flashZeroB (n : Nat) : Value → Bool
  | .agg cs => match cs.toList with
    | .int .i64 (.ofNat 0) :: .int .i64 (.ofNat 0) :: .slice none 0 0 :: .bool false :: r => zerosB n r
    | _ => false
  | _ => false
theorem bv_zeros (n : Nat) : bv (List.replicate n 0) = List.replicate n (.int .u8 0) := by simp [bv]
theorem flashZeroB_eq {n : Nat} {v : Value} (h : flashZeroB n v = true) : v = .agg (flashCells ⟨0, 0, [], false, List.replicate n 0⟩ none 0 0).toArray := by
  unfold flashZeroB at h
  split at h
  · rename_i cs
    split at h
    · rename_i r hr
      have := zerosB_eq _ _ h
      subst this
      congr 1
      apply Array.toList_inj.1
      rw [hr]
      show _ = _ :: _ :: _ :: _ :: bv (List.replicate n 0)
      rw [bv_zeros]
      rfl
    · cases h
  · cases h
set_option maxRecDepth 1000000 in
theorem flashZero_ok : ((Try.prog.info? 43).bind (·.zero)).map (flashZeroB 6144) = some true := by kernel_rfl
theorem zero_run {P : Program} {t : TypeId} {it : TypeInfo} {z : Value} (hi : P.info? t = some it) (hz : it.zero = some z) (w : World) : (zeroValue t).run P w = .ok z w := by
  simp [zeroValue, typeInfo, hi, hz]
theorem run_zeroFlash (w : World) : (zeroValue 43).run Try.prog w = .ok (.agg (flashCells ⟨0, 0, [], false, List.replicate 6144 0⟩ none 0 0).toArray) w := by
  have h := flashZero_ok
  cases hi : Try.prog.info? 43 with
  | none => rw [hi] at h; cases h
  | some it =>
    rw [hi] at h
    cases hz : it.zero with
    | none => simp [hz] at h
    | some z =>
      simp only [Option.bind_some, hz, Option.map_some, Option.some.injEq] at h
      rw [← flashZeroB_eq h]
      exact zero_run hi hz w
end Go.Proofs.Ytcpifcdndhhmgaa
set_option linter.unusedVariables false
set_option linter.unusedSimpArgs false
namespace Go.Proofs.Ytcpifcdndhhmgaa
open Go.RowKit
section
variable {P : Program} {Q : Exit → Act → World → Prop} {n : Nat} {L : Slots} {w : World} {ops : Array Oper} {rest : List Oper} {o : Oper}
theorem kl_callv {d t : Nat} {f : FuncId} {fn : Func} {c : Code} {xs : List Operand} {ts : Array TypeId} {lb : Array Value} (hd : o.dst = some d) (hg : o.guard = none) (ho : o.op = .call { callee := .value (.tmp t), args := xs.toArray, argTypes := ts })
    (ht : lk L t = some (.func (.func f) #[] lb)) (hf : P.funcs[f]? = some fn) (hb : fn.body = some c) (hn : (fn.name == "runtime.NumGoroutine") = false) (hk : (xs.all (okx L) && Nat.blt d n) = true)
    (h : Calls P f ((xs.map (ev L)).toArray ++ lb) w fun e w' => ∃ v, e = .returned v ∧ KL P ops Q rest n ((d, v) :: L) w') : KL P ops Q (o :: rest) n L w := by
  have hk' := hk
  simp only [Bool.and_eq_true] at hk'
  have hv : ev L (.tmp t) = .func (.func f) #[] lb := by simp [ev, ht]
  refine kl_step hd hg ?_ fun K hK => ?_
  · simp only [ho, okop, Bool.and_eq_true]
    exact ⟨⟨hk'.1, by simp [okx, ht]⟩, hk'.2⟩
  · have he : execOp (ev L) o = callFunc f (#[] ++ xs.toArray.map (ev L) ++ lb) := by
      obtain ⟨dst, op, type, pos, after, guard⟩ := o
      subst ho
      simp only [execOp, resolve, hv]
      rfl
    rw [he, run_callFunc hf hb hn]
    simp only [Array.empty_append, List.map_toArray]
    refine Calls.mono h ?_
    rintro e w'' ⟨v, rfl, hv⟩
    exact ⟨v, rfl, hK _ _ hv⟩
end
section
variable {Q : Exit → Act → World → Prop} {n : Nat} {L : Slots} {w : World} {ops : Array Oper} {rest : List Oper} {o : Oper}
/-- copy of bytes into bytes of the call's own -/
theorem kl_copy {d x y : Nat} (hd : o.dst = some d) (hg : o.guard = none) (ho : o.op = .call { callee := .builtin .copy, args := #[.tmp x, .tmp y], argTypes := #[27, 27] })
    (g off dLen dCap : Nat) (A : Option Addr) (m c : Nat) (k : List UInt8) (hx : lk L x = some (.slice (some ⟨g, off, none⟩) dLen dCap)) (hy : lk L y = some (.slice A m c)) (hA : Bs w A m k)
    (cur : List Value) (t : TypeId) (hcur : w.heap[g]? = some (.cells cur.toArray t (0, 0))) (hfit : off + min m dLen ≤ cur.length) (B : Nat) (w0 : World) (hb : Below B w0 w) (hBg : B ≤ g) (hn : Nat.blt d n = true)
    (h : ∀ w', Hid (w'.heap[g]? = some (.cells (splice cur off (bv (k.take (min m dLen)))).toArray t (0, 0))) → Below B w0 w' → KL Try.prog ops Q rest n ((d, .int .i64 (min m dLen : Nat)) :: L) w') : KL Try.prog ops Q (o :: rest) n L w :=
  ⟨fun a ka => copyB hg (.tmp x) (.tmp y) ho g off dLen dCap A m c k (ka.ev hx) (ka.ev hy) hA cur t hcur hfit B w0 hb hBg fun w' h1 h2 => kl_back ka hd hn (h w' h1 h2)⟩
end
end Go.Proofs.Ytcpifcdndhhmgaa
