/- The map's keys: a path and a kind. The map from a path and a kind to a value. A range over a function whose round's variables lie in blocks; maps in the sparse walk. No program in sight. -/
import Derived.Test.YtcpifcdndhhmgaaTakTake
import Derived.Maps.Own
import Derived.Maps.OwnSet
import Derived.DeepKeys4
import Derived.Maps.Views
import Derived.Test.YtcpifcdndhhmgaaKnJ
set_option linter.unusedVariables false
set_option linter.unusedSimpArgs false
namespace Go.Proofs.Ytcpifcdndhhmgaa
open Go.RowKit Go.ChangeMaps Go.MapKept
open Go.Maps (Keyed)
set_option maxRecDepth 100000 in
theorem keyLaid : laidOutB Try.prog = true := by kernel_rfl
theorem keyRow : 99 < Try.prog.types.size := of_decide_eq_true (by kernel_rfl)
theorem keyWide : (match Try.prog.underlying 99 with | some (.array _ _) | some (.struct _) => true | _ => false) = true := by rw [Try.underlying99]
set_option maxRecDepth 100000 in
theorem keyAt : Try.prog.keyTypeAt 2 99 = true := by kernel_rfl
set_option maxRecDepth 100000 in
theorem keyLaw : Keyed Try.prog 99 := Keyed.of_law (deep_law_laid keyLaid (m := 2) (by omega) keyRow keyAt keyWide)
def keyV (s : List UInt8) (z : Int) : Value := .agg #[.string ⟨s.toArray⟩, .int .i64 z]
set_option maxRecDepth 100000 in
theorem keyType_ : Try.prog.keyType 99 = true := by kernel_rfl
set_option maxRecDepth 100000 in
theorem key_ex (s : List UInt8) (z : Int) (hs : s.length ≤ 9223372036854775807) (hz : I64 z) : ∃ kl, keyOf Try.prog 99 (keyV s z) = some kl := by
  have c0 : Try.prog.cellsOf 99 = 2 := by kernel_rfl
  have c1 : Try.prog.cellsOf 9 = 1 := by kernel_rfl
  have c2 : Try.prog.cellsOf 3 = 1 := by kernel_rfl
  have hw : (Lit.int .i64 z).wf = true := by
    unfold I64 at hz
    simp [Lit.wf, IntKind.min, IntKind.max, IntKind.signed, IntKind.bits]
    omega
  have hsz : ∃ m, Try.prog.types.size = m + 1 := ⟨Try.prog.types.size - 1, by have := keyRow; omega⟩
  obtain ⟨m, hm⟩ := hsz
  have hf : (keyV s z).formed Try.prog 99 = true := by simp [keyV, Value.formed, Try.underlying99, c0]
  unfold keyOf
  rw [Try.underlying99]
  simp only [keyType_, hf, Bool.and_self, if_true]
  rw [hm]
  have hs2 : (⟨s.toArray⟩ : ByteArray).size ≤ maxLen := by rw [size_str]; simpa [maxLen] using hs
  simp [Program.keyLits, Try.underlying99, Try.underlying9, Try.underlying3, keyV, Value.cells, c0, c1, c2, hw, hs2]
end Go.Proofs.Ytcpifcdndhhmgaa
set_option linter.unusedVariables false
set_option linter.unusedSimpArgs false
namespace Go.Proofs.Ytcpifcdndhhmgaa
open Go.RowKit Go.ChangeMaps Go.MapKept
open Go.Maps (Keyed)
def hitV (s : List UInt8) (z : Int) (k : KepS) : Bool := (k.path == s) && (k.kind == z)
/-- block b is a map of at most n entries that tells, for each key, the first of S that bears it -/
def MapK (W : World) (b n : Nat) (S : List KepS) : Prop :=
  ∃ D : DataW Unit, W.ownsMap Try.prog 99 (plainElem Try.prog 3) b n D ∧ ∀ s z kl, keyOf Try.prog 99 (keyV s z) = some kl →
    Maps.has D kl = (S.find? (hitV s z)).isSome ∧ D.atKey kl (.lit (.int .i64 0)) = .lit (.int .i64 (((S.find? (hitV s z)).map (·.value)).getD 0))
theorem MapK.made (W : World) : MapK (W.alloc (.map #[] 0)) W.heap.size 0 [] := ⟨.map [], World.ownsMap_made W _ _ _, fun s z kl _ => ⟨rfl, rfl⟩⟩
theorem MapK.kept {W W' : World} {b n : Nat} {S : List KepS} {row : Option Nat} (h : MapK W b n S) (hg : W.grownBy W' row) (hne : some b ≠ row) : MapK W' b n S := by
  obtain ⟨D, ho, hD⟩ := h
  exact ⟨D, ho.kept hg hne, hD⟩
theorem MapK.lt {W : World} {b n : Nat} {S : List KepS} (h : MapK W b n S) : b < W.heap.size := by
  obtain ⟨D, ho, hD⟩ := h
  exact ho.lt
theorem wf_i64 {z : Int} (hz : I64 z) : (Lit.int .i64 z).wf = true := by
  unfold I64 at hz
  simp [Lit.wf, IntKind.min, IntKind.max, IntKind.signed, IntKind.bits]
  omega
theorem keyV_inj {s t : List UInt8} {x y : Int} (h : keyV s x = keyV t y) : s = t ∧ x = y := by
  unfold keyV at h
  injection h with h
  have h0 := congrArg (fun a : Array Value => a[0]?) h
  have h1 := congrArg (fun a : Array Value => a[1]?) h
  simp at h0 h1
  exact ⟨h0, h1⟩
theorem MapK.update {W : World} {b n : Nat} {S : List KepS} (h : MapK W b n S) (hn : n < maxLen) (k : KepS) (hp : k.path.length ≤ 9223372036854775807) (hk : I64 k.kind) (hv : I64 k.value) :
    ∃ W', (Instr.mapUpdate 94 (.map (some b)) (keyV k.path k.kind) (.int .i64 k.value)).run Try.prog W = .ok () W' ∧ MapK W' b (n + 1) (k :: S) ∧ W.grownBy W' (some b) := by
  obtain ⟨D, ho, hD⟩ := h
  obtain ⟨kl, hkl⟩ := key_ex k.path k.kind hp hk
  obtain ⟨W', hrun, ho', hg⟩ := ho.update keyLaw Try.underlying94 hn hkl (plainElem_int Try.underlying3 (wf_i64 hv))
  refine ⟨W', hrun, ⟨_, ho', fun s z kl' h' => ?_⟩, hg⟩
  by_cases hs : k.path = s ∧ k.kind = z
  · obtain ⟨rfl, rfl⟩ := hs
    rw [hkl] at h'
    injection h' with h'
    subst h'
    have hh : hitV k.path k.kind k = true := by simp [hitV]
    rw [Maps.has_put_same ho.isMap (keyLaw.key hkl), Maps.atKey_put_same ho.isMap (keyLaw.key hkl), List.find?_cons, hh]
    exact ⟨rfl, rfl⟩
  · have hne : kl' ≠ kl := fun e => by
      subst e
      exact hs (keyV_inj (keyLaw.inj hkl h'))
    have hh : hitV s z k = false := by
      cases hb : hitV s z k with
      | false => rfl
      | true =>
        unfold hitV at hb
        rw [Bool.and_eq_true, beq_iff_eq, beq_iff_eq] at hb
        exact absurd hb hs
    rw [Maps.has_put_other hne, Maps.atKey_put_other hne, List.find?_cons, hh]
    exact hD s z kl' h'
set_option maxRecDepth 100000 in
theorem MapK.look {W : World} {b n : Nat} {S : List KepS} (h : MapK W b n S) (s : List UInt8) (z : Int) (hs : s.length ≤ 9223372036854775807) (hz : I64 z) :
    (Instr.lookup 94 (.map (some b)) (keyV s z) true).run Try.prog W = .ok (.tuple #[.int .i64 (((S.find? (hitV s z)).map (·.value)).getD 0), .bool (S.find? (hitV s z)).isSome]) W := by
  obtain ⟨D, ho, hD⟩ := h
  obtain ⟨kl, hkl⟩ := key_ex s z hs hz
  obtain ⟨h1, h2⟩ := hD s z kl hkl
  have hzero : (zeroValue 3).run Try.prog W = .ok (.int .i64 0) W := by kernel_rfl
  obtain ⟨v, ps, hrun, hv⟩ := ho.look_ok keyLaw Try.underlying94 hzero (plainElem_int Try.underlying3 (by decide)) hkl
  obtain ⟨a, rfl, ha, _⟩ := plainElem_int_inv Try.underlying3 hv
  have ha1 := congrArg Prod.fst ha
  rw [h2] at ha1
  injection ha1 with ha1
  injection ha1 with _ ha1
  rw [hrun, h1, ← ha1]
end Go.Proofs.Ytcpifcdndhhmgaa
set_option linter.unusedVariables false
set_option linter.unusedSimpArgs false
namespace Go.Proofs.Ytcpifcdndhhmgaa
open Go.RowKit
section
variable {P : Program} {Q : Exit → Act → World → Prop} {n : Nat} {L : Slots} {w : World}
theorem kw_range3 {α : Type} {t p p2 gf : Nat} {lb : Array Value} {assign body : Code} (Lx : α → Nat → Slots) (ht : lk L t = some (.func (.func gf) #[] lb)) (eg : ∀ args w, (callFunc gf args).run P w = .ok (.enter gf args) w)
    {enc enc2 : α → Value} {Kp : World → World → Prop} {S Sp : List α → Prop} {N : Nat} (hseq : SeqStopsK Fence.wide 2 P gf lb (fun x => #[enc x, enc2 x]) Kp S Sp N w)
    (hKt : ∀ {A B C : World}, Kp A B → Kp B C → Kp A C) (hKb : ∀ (W : World) (l : Nat) (o o' : Obj), w.heap.size ≤ l → W.heap[l]? = some o → o.isCells = false → o.isWalk = false → Kp W (W.putObj l o')) (hp : Nat.blt p n = true) (hp2 : Nat.blt p2 n = true)
    (I : List α → World → Prop) (Ix : Code → List α → World → Prop) (Bx : α → Nat → World → Prop) (hI : OwnFrom w.heap.size I) (hIx : ∀ c, OwnFrom w.heap.size (Ix c)) (hBx : ∀ x, OwnFrom w.heap.size (Bx x)) (h0 : I [] w)
    (hassign : ∀ (l : Nat) (pre : List α) (x : α) (W : World) (K : Act → World → Prop), I pre W → (∀ gx a' W', KeepsFrom w.heap.size W W' → Kp W W' → I pre W' → Bx x gx W' → Kn n (Lx x gx) a' → K a' W') → KR P l 1 assign (Exit.then K (fun _ _ _ => False)) n ((p2, enc2 x) :: (p, enc x) :: L) W)
    (hbody : ∀ (l : Nat) (pre : List α) (x : α) (gx : Nat) (W : World), w.heap.size ≤ l → I pre W → Bx x gx W → pre.length < N → KR P l 1 body (ownPostG w.heap.size Kp I Ix (pre ++ [x]) W) n (Lx x gx) W)
    (hdone : ∀ (D : Nat) (xs : List α) (W : World), w.heap.size ≤ D → S xs → I xs W → W.heap[D]? = some (.deferred (some [])) → ∀ a, Kn n L a → Q .normal { a with defers := markD D } W)
    (hstop : ∀ (D : Nat) (c : Code) (pre : List α) (W : World), w.heap.size ≤ D → Sp pre → Ix c pre W → W.heap[D]? = some (.deferred (some [])) → ∀ a, Kn n L a → c.wp P Q { a with defers := markD D } W) :
    KW P (.rangeFunc (.tmp t) #[p, p2] assign body) Q n L w := ⟨fun a k => by
  refine wpIn_wide.1 (wpIn_rangeFunc_ownH (F := Fence.wide) (n := 3) rfl (by omega) (k.ev ht) trivial eg hseq (fun h k => hKt h k) hKb (Below.refl _ _) (fun _ => rfl) I Ix hI hIx h0 (fun x a' W => ∃ gx, Kn n (Lx x gx) a' ∧ Bx x gx W) (fun x a' _ W W' row hs hg hr => by obtain ⟨gx, h1, h2⟩ := hs; exact ⟨gx, h1, hBx x gx W W' row h2 hg hr⟩) ?_ ?_ ?_ ?_)
  · intro l pre x W K hi hK
    refine (hassign l pre x W K hi fun gx a' W' h1 h2 h3 h4 ka => hK a' W' h1 h2 h3 ⟨gx, ka, h4⟩).h _ ?_
    have hk := (k.put p (enc x) hp).put p2 (enc2 x) hp2
    have e : ({ tmps := ((#[p, p2] : Array Tmp).zip #[enc x, enc2 x]).foldl (fun t (p, v) => t.setIfInBounds p v) a.tmps, defers := [] } : Act) = (a.put (some p) (enc x)).put (some p2) (enc2 x) := by
      have := k.def_
      obtain ⟨ts, ds⟩ := a
      simp only at this
      subst this
      simp [Act.put]
    rw [e]; exact hk
  · intro l pre x a' W hl _ hi ⟨gx, ka, hb⟩ hlen
    exact (hbody l pre x gx W hl hi hb hlen).h a' ka
  · intro D xs W hD hS hi hd
    rw [k.def_]
    exact hdone D xs W hD hS hi hd a k
  · intro D c pre W hD hS hi hd
    rw [k.def_]
    exact wpIn_wide.2 (hstop D c pre W hD hS hi hd a k)⟩
variable {ops : Array Oper} {rest : List Oper} {o : Oper}
theorem kl_mapUpdate {x y z : Nat} {t : TypeId} {mv kv vv : Value} {w' : World} (hd : o.dst = none) (hg : o.guard = none) (ho : o.op = .mapUpdate t (.tmp x) (.tmp y) (.tmp z)) (hx : lk L x = some mv) (hy : lk L y = some kv) (hz : lk L z = some vv)
    (hr : (Instr.mapUpdate t mv kv vv).run P w = .ok () w') (h : KL P ops Q rest n L w') : KL P ops Q (o :: rest) n L w := ⟨fun a ka => by
  refine wpList_plain hg fun K hK => ?_
  unfold Oper.wp
  have h1 : a.eval (.tmp x) = mv := ka.ev hx
  have h2 : a.eval (.tmp y) = kv := ka.ev hy
  have h3 : a.eval (.tmp z) = vv := ka.ev hz
  have he : (execOp a.eval o).run P w = .ok .skip w' := by
    obtain ⟨dst, op, type, pos, after, guard⟩ := o
    subst ho
    simp [execOp, h1, h2, h3, hr, Sem.run_bind, Sem.run_pure]
  rw [he]
  refine hK _ _ ?_
  rw [hd]
  exact h.h a ka⟩
theorem kl_lookup {d x y : Nat} {t : TypeId} {mv kv v : Value} {ok : Bool} (hd : o.dst = some d) (hg : o.guard = none) (ho : o.op = .lookup t (.tmp x) (.tmp y) ok) (hx : lk L x = some mv) (hy : lk L y = some kv) (hn : Nat.blt d n = true)
    (hr : (Instr.lookup t mv kv ok).run P w = .ok v w) (h : KL P ops Q rest n ((d, v) :: L) w) : KL P ops Q (o :: rest) n L w := ⟨fun a ka => by
  refine wpList_plain hg fun K hK => ?_
  unfold Oper.wp
  have h1 : a.eval (.tmp x) = mv := ka.ev hx
  have h2 : a.eval (.tmp y) = kv := ka.ev hy
  have he : (execOp a.eval o).run P w = .ok (.value v) w := by
    obtain ⟨dst, op, type, pos, after, guard⟩ := o
    subst ho
    simp [execOp, h1, h2, hr, Sem.run_bind, Sem.run_pure]
  rw [he]
  refine hK _ _ ?_
  rw [hd]
  exact h.h _ (ka.put d v hn)⟩
theorem kl_makeMap {d : Nat} {t : TypeId} (hd : o.dst = some d) (hg : o.guard = none) (ho : o.op = .makeMap t none) (hn : Nat.blt d n = true)
    (h : ∀ b w', b = w.heap.size → w' = w.alloc (.map #[] 0) → KL P ops Q rest n ((d, .map (some b)) :: L) w') : KL P ops Q (o :: rest) n L w := ⟨fun a ka => by
  refine wpList_plain hg fun K hK => ?_
  unfold Oper.wp
  have he : (execOp a.eval o).run P w = .ok (.value (.map (some w.heap.size))) (w.alloc (.map #[] 0)) := by
    obtain ⟨dst, op, type, pos, after, guard⟩ := o
    subst ho
    simp [execOp, Instr.makeMap, Sem.run_bind, Sem.run_pure, go_sem]
  rw [he]
  refine hK _ _ ?_
  rw [hd]
  exact (h _ _ rfl rfl).h _ (ka.put d _ hn)⟩
end
end Go.Proofs.Ytcpifcdndhhmgaa
