/- The arguments of a law, opened into words for memory; no program in sight. append and conversion at bytes; make. A world that has grown, and blocks that one stays away from. No program in sight. The flash memory, plain: what each of its operations makes of its bytes; no program in sight. The flash memory's block: what it reads as; what stores into it leave. -/
import Derived.Test.YtkncomkncfcecaaLib
import Derived.ProofKit
import Derived.OpenShut
import Derived.ShutString
import Derived.ChangeOld
import Derived.SizedLaws
import Derived.Deep.Matrix
import Derived.SliceStrings
import Derived.Test.YtkncomkncfcecaaChecked
import Derived.Lib.AppendZerosOnto
import Derived.Lib.SliceRun
import Derived.Laws.Tables
import Derived.Laws.CopyOwn
set_option linter.unusedVariables false
set_option linter.unusedSimpArgs false
namespace Go.Proofs.Ytkncomkncfcecaa
open Go.ChangeShapes Go.WideShapes Go.ChangeAt Go.RowKit Go.Deep
open Go.ChangeMaps (open_string shut_string)
section
variable {H : Type} {enc : TypeId × Value → H} {P : Program} {W : World}
def toBytes (zs : List Int) : List UInt8 := zs.map fun z => UInt8.ofNat z.toNat
theorem u8_back {z : Int} (h : (Lit.int .u8 z).wf = true) : (((UInt8.ofNat z.toNat).toNat : Nat) : Int) = z := by
  have hb : 0 ≤ z ∧ z ≤ 255 := by simpa [Lit.wf, IntKind.min, IntKind.max, IntKind.signed, IntKind.bits] using h
  rw [UInt8.toNat_ofNat']
  omega
theorem WG {e : TypeId} {d : DataW H} : ∀ {ds : List (DataW H)}, d ∈ ds → ∀ n ∈ d.weights P e, n ∈ DataW.weightsAll P e ds
  | x :: ds, h, n, hn => by
    simp only [DataW.weightsAll, List.mem_append]
    rcases List.mem_cons.1 h with rfl | h
    · exact .inl hn
    · exact .inr (WG h n hn)
def Sized (P : Program) (t : TypeId) (d : DataW H) : Prop := ∀ n ∈ d.weights P t, n ≤ 140737488351232
theorem Sized.slice {t e : TypeId} {elems spare : List (DataW H)} (hu : P.underlying t = some (.slice e)) (h : Sized P t (.slice elems spare)) :
    (elems.length + spare.length) * P.bytesOf e ≤ 140737488351232 ∧ ∀ d ∈ elems, Sized P e d := by
  refine ⟨h _ (by simp [DataW.weights, hu]), fun d hd n hn => h n ?_⟩
  simp only [DataW.weights, hu, List.mem_cons, List.mem_append]
  exact .inr (.inl (WG hd n hn))
end
end Go.Proofs.Ytkncomkncfcecaa
set_option linter.unusedVariables false
set_option linter.unusedSimpArgs false
namespace Go.Proofs.Ytkncomkncfcecaa
open Go.RowKit
theorem byteInfo : (Try.prog.info? 5).map (fun i => (i.zero, i.size, i.bytes)) = some (some (.int .u8 0), 1, 1) := by kernel_rfl
theorem appendB (w : World) {ops : Array Oper} {rest : List Oper} {o : Oper} {a : Act} {Q : Exit → Act → World → Prop} (hgd : o.guard = none) (s x : Operand)
    (ho : o.op = .call { callee := .builtin .append, args := #[s, x], argTypes := #[32, 32] })
    (base : Nat) (v : Value) (n : Nat) (l : List UInt8) (hs : a.eval s = v) (hown : w.ownsRow base 5 1 v n (bv l))
    (A : Option Addr) (m c : Nat) (k : List UInt8) (hx : a.eval x = .slice A m c) (hr : Bs w A m k) (hb : n + m ≤ 70368744177664) (hbase : base ≤ w.heap.size)
    (h : ∀ v' w', w'.ownsRow base 5 1 v' (n + m) (bv (l ++ k)) → w.grownBy w' v.ownBlock → (v'.ownBlock = v.ownBlock ∨ v'.ownBlock = some w.heap.size) → wpList Try.prog ops Q rest (a.put o.dst v') w') : wpList Try.prog ops Q (o :: rest) a w := by
  obtain ⟨i0, hi0, hz0, hz1, hz2⟩ := info_parts byteInfo
  refine YB w hgd s x 32 ho base 5 i0 (.int .u8 0) 1 Try.underlying32 hi0 hz0 hz1 hz2 rfl v n (bv l) hs hown A m c (bv k) hx hr (WH k) (by omega) (by simp only [maxLen]; omega) hbase ?_
  intro v' w' h1 h2 h3
  rw [← X0] at h1
  exact h v' w' h1 h2 h3
theorem cloneB (w : World) {ops : Array Oper} {rest : List Oper} {o : Oper} {a : Act} {Q : Exit → Act → World → Prop} (hgd : o.guard = none) (s x : Operand)
    (ho : o.op = .call { callee := .builtin .append, args := #[s, x], argTypes := #[32, 32] })
    (B : Nat) (hB : B = w.heap.size) (hs : a.eval s = .slice (some ⟨B, 0, none⟩) 0 0)
    (A : Option Addr) (m c : Nat) (k : List UInt8) (hx : a.eval x = .slice A m c) (hr : Bs w A m k) (hb : m ≤ 70368744177664)
    (h : ∀ v' w', w'.ownsRow w.heap.size 5 1 v' m (bv k) → Below w.heap.size w w' → wpList Try.prog ops Q rest (a.put o.dst v') w') : wpList Try.prog ops Q (o :: rest) a (w.alloc (.cells #[] 5)) := by
  subst hB
  refine appendB _ hgd s x ho w.heap.size (.slice (some ⟨w.heap.size, 0, none⟩) 0 0) 0 [] hs (World.ownsRow_made w #[] 0 (Nat.le_refl _) (by simp [maxLen]) rfl) A m c k hx (hr.alloc _) (by omega) (by simp) ?_
  intro v' w' h1 h2 h3
  rw [Nat.zero_add] at h1
  exact h v' w' h1 (((Below.refl _ w).alloc (Nat.le_refl _) _).grown h2 (by simp) (by simp [Value.ownBlock]))
theorem convB {w : World} {A : Option Addr} {n c : Nat} {l : List UInt8} (h : Bs w A n l) :
    (convert 32 9 (.slice A n c)).run Try.prog w = .ok (.string ⟨l.toArray⟩) w := by
  rw [run_convert_bytes_string (P := Try.prog) w 32 9 5 A n c Try.underlying32 Try.underlying5 Try.underlying9]
  rcases A with _ | ad
  · have h0 : n = 0 := by
      rcases Nat.eq_zero_or_pos n with h' | h'
      · exact h'
      · obtain ⟨_, _, h', _⟩ := h.2 h'; cases h'
    subst h0
    have hl : l = [] := List.eq_nil_of_length_eq_zero h.len
    subst hl
    rfl
  · have hlen := h.len
    have hload : (loadCells ad n).run Try.prog w = .ok ((l.map fun u => (u.toNat : Int)).map (Value.int .u8)).toArray w := by
      rcases Nat.eq_zero_or_pos n with h' | h'
      · subst h'
        have hl : l = [] := List.eq_nil_of_length_eq_zero hlen
        subst hl
        rfl
      · obtain ⟨b, o, e, hc⟩ := h.2 h'
        injection e with e; subst e
        have := run_loadCells_list (P := Try.prog) w ⟨b, o, none⟩ (bv l) (fun j u hu => by rw [Addr.add_lit]; exact hc j u hu)
        rw [Ye, hlen] at this
        rw [this]
        simp [bv]
    rw [run_bytesToString w ad n c _ hload, foldl_push_bytes]
    simp only [List.map_map]
    have : (fun n : Int => UInt8.ofNat n.toNat) ∘ (fun u : UInt8 => (u.toNat : Int)) = id := by funext u; simp
    rw [this, List.map_id]
    have : (ByteArray.empty).data ++ l.toArray = l.toArray := by
      show #[] ++ l.toArray = l.toArray
      simp
    rw [this]
set_option maxRecDepth 100000 in
theorem makeBytes (n : Nat) (hn : n ≤ 140737488355328) (W : World) :
    (Instr.makeSlice 32 (.int .i64 (n : Int)) (.int .i64 (n : Int))).run Try.prog W = .ok (.slice (some ⟨W.heap.size, 0, none⟩) n n) (W.alloc (.cells (bv (List.replicate n 0)).toArray 5)) := by
  obtain ⟨i0, hi0, hz0, hz1, hz2⟩ := info_parts byteInfo
  have hr := run_make (P := Try.prog) W 32 5 i0 (.int .u8 0) Try.underlying32 hi0 hz0 .i64 .i64 n n (by omega) (by omega) (by rw [hz2]; omega) (by omega)
  simp only [Int.toNat_natCast, hz1, Nat.mul_one, Value.cells] at hr
  rw [hr]
  congr 3
  apply Array.toList_inj.1
  rw [toList_madeCells_one]
  simp [bv]
end Go.Proofs.Ytkncomkncfcecaa
set_option linter.unusedVariables false
set_option linter.unusedSimpArgs false
namespace Go.Proofs.Ytkncomkncfcecaa
open Go.RowKit
theorem ZJ (w : World) (g k : Nat) (u : Value) : w.grownBy (w.setCell ⟨g, k, none⟩ u) (some g) :=
  ⟨rfl, rfl, rfl, by simp, fun i _ hne => Below.heap_setCell _ _ _ _ (fun e => hne (by rw [e]))⟩
theorem Z0 {a b c : World} {r : Option Nat} (h : a.grownBy b r) (k : b.grownBy c r) : a.grownBy c r :=
  ⟨k.os.trans h.os, k.tape.trans h.tape, k.output.trans h.output, Nat.le_trans h.size k.size, fun i hi hne => (k.block i (Nat.lt_of_lt_of_le hi h.size) hne).trans (h.block i hi hne)⟩
theorem ZG (a : World) (r : Option Nat) : a.grownBy a r := ⟨rfl, rfl, rfl, Nat.le_refl _, fun _ _ _ => rfl⟩
theorem Z8 {W W' : World} (hb : Below W.heap.size W W') (r : Option Nat) : W.grownBy W' r := ⟨hb.os, hb.tape, hb.output, hb.size, fun i hi _ => hb.block i hi⟩
theorem Xu (w : World) (n : Nat) (r : Option Nat) : w.grownBy (w.drewN n) r := ⟨rfl, rfl, rfl, Nat.le_refl _, fun _ _ _ => rfl⟩
theorem Xl {B g : Nat} {w0 w w' : World} (hb : Below B w0 w) (hg : w.grownBy w' (some g)) (hB : B ≤ w.heap.size) (hgB : B ≤ g) : Below B w0 w' :=
  hb.grown hg hB fun k hk => by injection hk with hk; omega
def InQ (Q : Nat → Prop) (A : Option Addr) : Prop := ∀ a, A = some a → Q a.block
theorem Wz (Q : Nat → Prop) : InQ Q none := fun a e => by cases e
def Away (g : Nat) (A : Option Addr) : Prop := ∀ a, A = some a → a.block ≠ g
theorem InQ.away {Q : Nat → Prop} {g : Nat} {A : Option Addr} (h : InQ Q A) (hQ : ∀ b, Q b → b ≠ g) : Away g A := fun a e => hQ _ (h a e)
theorem Bs.grownKeep {W W' : World} {A : Option Addr} {n g : Nat} {l : List UInt8} (h : Bs W A n l) (hg : W.grownBy W' (some g)) (hne : Away g A) : Bs W' A n l :=
  ⟨h.1, fun hn => by
    obtain ⟨b, o, e, hc⟩ := h.2 hn
    exact ⟨b, o, e, fun i u hu => hg.cell (hc i u hu) (fun h => hne _ e (by injection h))⟩⟩
theorem Bs.inQ {W : World} {A : Option Addr} {n : Nat} {l : List UInt8} (h : Bs W A n l) : 0 < n → InQ (fun b => b < W.heap.size) A := fun h0 a e => by
  obtain ⟨b, o, e', hc'⟩ := h.2 h0
  have := World.block_lt_of_cell? W _ (hc' 0 _ (bv_get l 0 (by rw [h.len]; exact h0)))
  rw [e'] at e
  injection e with e
  subst e
  exact this
theorem Bs.grownKeep0 {W W' : World} {A : Option Addr} {n g : Nat} {l : List UInt8} (h : Bs W A n l) (hg : W.grownBy W' (some g)) (hne : 0 < n → Away g A) : Bs W' A n l :=
  ⟨h.1, fun hn => (h.grownKeep hg (hne hn)).2 hn⟩
end Go.Proofs.Ytkncomkncfcecaa
set_option linter.unusedVariables false
set_option linter.unusedSimpArgs false
namespace Go.Proofs.Ytkncomkncfcecaa
open Go.RowKit
structure FlashSt where
  left : Int
  done : Int
  mask : List UInt8
  dead : Bool
  S : List UInt8
def spendF (f : FlashSt) : FlashSt :=
  if 0 < f.left then { f with done := wrap64 (f.done + 1), left := f.left - 1, dead := f.left - 1 == 0 } else { f with done := wrap64 (f.done + 1) }
theorem spendF_S (f : FlashSt) : (spendF f).S = f.S := by unfold spendF; split <;> rfl
theorem Wa (f : FlashSt) : (spendF f).mask = f.mask := by unfold spendF; split <;> rfl
def mByte (whole : Bool) (mask : List UInt8) (i : Nat) : UInt8 := if whole = true then 255 else if mask.length = 0 then 0 else mask.getD (i % mask.length) 0
def layB (m old to : UInt8) : UInt8 := (old &&& ~~~m) ||| (to &&& m)
def layS (whole : Bool) (mask to : List UInt8) (off : Nat) : Nat → List UInt8 → List UInt8
  | 0, S => S
  | k + 1, S => (layS whole mask to off k S).set (off + k) (layB (mByte whole mask k) ((layS whole mask to off k S).getD (off + k) 0) (to.getD k 0))
theorem ZC (whole : Bool) (mask to : List UInt8) (off n : Nat) (S : List UInt8) : (layS whole mask to off n S).length = S.length := by
  induction n with
  | zero => rfl
  | succ k ih => simp [layS, ih]
theorem layS_at (whole : Bool) (mask to : List UInt8) (off n : Nat) (S : List UInt8) (i : Nat) (hi : i < S.length) :
    (layS whole mask to off n S)[i]? = some (if off ≤ i ∧ i < off + n then layB (mByte whole mask (i - off)) (S.getD i 0) (to.getD (i - off) 0) else S.getD i 0) := by
  induction n with
  | zero => rw [if_neg (by omega)]; simp [layS, hi]
  | succ k ih =>
    simp only [layS]
    by_cases he : off + k = i
    · subst he
      rw [List.getElem?_set_self (by rw [ZC]; exact hi), if_pos (by omega), show off + k - off = k by omega]
      have h2 : (layS whole mask to off k S).getD (off + k) 0 = S.getD (off + k) 0 := by
        rw [List.getD_eq_getElem?_getD, ih, if_neg (by omega)]; rfl
      rw [h2]
    · rw [List.getElem?_set_ne he, ih]
      congr 1
      by_cases h1 : off ≤ i ∧ i < off + k
      · rw [if_pos h1, if_pos (by omega)]
      · rw [if_neg h1, if_neg (by omega)]
theorem layS_getD (whole : Bool) (mask to : List UInt8) (off n : Nat) (S : List UInt8) (i : Nat) (hi : i < S.length) :
    (layS whole mask to off n S).getD i 0 = if off ≤ i ∧ i < off + n then layB (mByte whole mask (i - off)) (S.getD i 0) (to.getD (i - off) 0) else S.getD i 0 := by
  rw [List.getD_eq_getElem?_getD, layS_at _ _ _ _ _ _ _ hi]; rfl
theorem u8_and_255 (x : UInt8) : x &&& 255 = x := by
  apply UInt8.toNat_inj.1
  rw [UInt8.toNat_and]
  exact Nat.and_two_pow_sub_one_of_lt_two_pow (n := 8) (ZS x)
theorem layB_all (old to : UInt8) : layB 255 old to = to := by
  unfold layB
  have h1 : (~~~(255 : UInt8)) = 0 := by decide
  rw [h1, UInt8.and_zero, UInt8.zero_or]
  exact u8_and_255 to
/-! ### a program and an erasure -/
def pad (b : List UInt8) : List UInt8 := b ++ List.replicate (16 - b.length) 255
theorem length_pad (b : List UInt8) (h : b.length ≤ 16) : (pad b).length = 16 := by simp [pad]; omega
def fits (b : List UInt8) (off : Nat) (S : List UInt8) : Nat → Bool
  | 0 => true
  | k + 1 => fits b off S k && (((pad b).getD k 0 &&& ~~~(S.getD (off + k) 0)) == 0)
theorem fits_mono (b : List UInt8) (off : Nat) (S : List UInt8) {k m : Nat} (hk : k ≤ m) (h : fits b off S k = false) : fits b off S m = false := by
  induction m with
  | zero => rw [show k = 0 by omega] at h; exact h
  | succ m ih =>
    by_cases he : k = m + 1
    · rw [← he]; exact h
    · unfold fits; rw [ih (by omega)]; rfl
def progF (f : FlashSt) (s p : Int) (b : List UInt8) : Int × FlashSt :=
  if f.dead = true then (14, f)
  else if s < 0 ∨ 6 ≤ s ∨ p < 0 ∨ 64 ≤ p then (12, f)
  else if 16 < b.length then (5, f)
  else if fits b (s.toNat * 1024 + p.toNat * 16) f.S 16 = false then (13, f)
  else (if (spendF f).dead = true then 14 else 0, { spendF f with S := layS (!(spendF f).dead) f.mask (pad b) (s.toNat * 1024 + p.toNat * 16) 16 f.S })
def eraseF (f : FlashSt) (s : Int) : Int × FlashSt :=
  if f.dead = true then (14, f)
  else if s < 0 ∨ 6 ≤ s then (12, f)
  else (if (spendF f).dead = true then 14 else 0, { spendF f with S := layS (!(spendF f).dead) f.mask (List.replicate 1024 255) (s.toNat * 1024) 1024 f.S })
def readF (f : FlashSt) (s : Int) : List UInt8 := if s < 0 ∨ 6 ≤ s then [] else (f.S.drop (s.toNat * 1024)).take 1024
def newF : FlashSt := ⟨0, 0, [], false, List.replicate 6144 255⟩
def stopF (f : FlashSt) (n : Int) (m : List UInt8) : FlashSt := { f with left := max n 0, mask := m }
def startF (f : FlashSt) : FlashSt := { f with left := 0, mask := [], dead := false }
/-! ### bytes' operations -/
theorem u8n_and (a b : UInt8) : bits .and .u8 (a.toNat : Int) (b.toNat : Int) = ((a &&& b).toNat : Int) := by
  rw [u8_and_nat _ _ (ZS a) (ZS b), UInt8.toNat_and]
theorem u8n_or (a b : UInt8) : bits .or .u8 (a.toNat : Int) (b.toNat : Int) = ((a ||| b).toNat : Int) := by
  rw [u8_or_nat _ _ (ZS a) (ZS b), UInt8.toNat_or]
theorem u8n_andNot (a b : UInt8) : bits .andNot .u8 (a.toNat : Int) (b.toNat : Int) = ((a &&& ~~~b).toNat : Int) := by
  rw [u8_andNot_nat _ _ (ZS a) (ZS b), UInt8.toNat_and]
  congr 2
  rw [UInt8.toNat_not]
  rfl
theorem u8_zero (x : UInt8) : ((x.toNat : Int) != 0) = !(x == 0) := by
  by_cases h : x = 0
  · subst h; rfl
  · have : x.toNat ≠ 0 := fun e => h (UInt8.toNat_inj.1 e)
    rw [beq_eq_false_iff_ne.2 h]
    simp only [Bool.not_false, bne_iff_ne, ne_eq]
    omega
end Go.Proofs.Ytkncomkncfcecaa
set_option linter.unusedVariables false
set_option linter.unusedSimpArgs false
namespace Go.Proofs.Ytkncomkncfcecaa
open Go.RowKit
def flashCells (f : FlashSt) (A : Option Addr) (n c : Nat) : List Value := .int .i64 f.left :: .int .i64 f.done :: .slice A n c :: .bool f.dead :: bv f.S
def FS (Q : Nat → Prop) (W : World) (g : Nat) (f : FlashSt) : Prop :=
  ∃ A n c, W.heap[g]? = some (.cells (flashCells f A n c).toArray 52 (0, 0)) ∧ f.S.length = 6144 ∧ 0 ≤ f.left ∧ f.left ≤ 9223372036854775807 ∧ Bs W A n f.mask ∧ n ≤ c ∧ c ≤ 9223372036854775807 ∧ InQ Q A
section
variable {W : World} {g : Nat} {f : FlashSt} {A : Option Addr} {n c : Nat}
theorem WR (h : W.heap[g]? = some (.cells (flashCells f A n c).toArray 52 (0, 0))) : W.cell? ⟨g, 0, none⟩ = some (.int .i64 f.left) := Z4 h rfl
theorem fl_done (h : W.heap[g]? = some (.cells (flashCells f A n c).toArray 52 (0, 0))) : W.cell? ⟨g, 1, none⟩ = some (.int .i64 f.done) := Z4 h rfl
theorem fl_mask (h : W.heap[g]? = some (.cells (flashCells f A n c).toArray 52 (0, 0))) : W.cell? ⟨g, 2, none⟩ = some (.slice A n c) := Z4 h rfl
theorem fl_dead (h : W.heap[g]? = some (.cells (flashCells f A n c).toArray 52 (0, 0))) : W.cell? ⟨g, 3, none⟩ = some (.bool f.dead) := Z4 h rfl
theorem fl_byte (h : W.heap[g]? = some (.cells (flashCells f A n c).toArray 52 (0, 0))) {i : Nat} (hi : i < f.S.length) : W.cell? ⟨g, 4 + i, none⟩ = some (.int .u8 ((f.S.getD i 0).toNat : Int)) := by
  refine Z4 h ?_
  rw [List.getElem?_toArray, Nat.add_comm 4 i]
  show (bv f.S)[i]? = _
  rw [bv_get _ _ hi]
  simp [hi]
theorem fl_bytes (h : W.heap[g]? = some (.cells (flashCells f A n c).toArray 52 (0, 0))) (off k : Nat) (hk : off + k ≤ f.S.length) : Bs W (some ⟨g, 4 + off, none⟩) k ((f.S.drop off).take k) := by
  refine ⟨by simp [bv]; omega, fun _ => ⟨g, 4 + off, rfl, fun i u hu => ?_⟩⟩
  have hi : i < k := by
    have := (List.getElem?_eq_some_iff.1 hu).1
    simp [bv] at this
    omega
  have := fl_byte h (i := off + i) (by omega)
  rw [show 4 + off + i = 4 + (off + i) by omega, this, ← hu]
  rw [bv_get _ _ (by simp; omega)]
  simp
  rw [List.getElem?_eq_getElem (by omega)]
  rfl
theorem fl_setLeft (v : Int) : (flashCells f A n c).toArray.setIfInBounds 0 (.int .i64 v) = (flashCells { f with left := v } A n c).toArray := rfl
theorem fl_setDone (v : Int) : (flashCells f A n c).toArray.setIfInBounds 1 (.int .i64 v) = (flashCells { f with done := v } A n c).toArray := rfl
theorem fl_setMask (B : Option Addr) (m d : Nat) (l : List UInt8) : (flashCells f A n c).toArray.setIfInBounds 2 (.slice B m d) = (flashCells { f with mask := l } B m d).toArray := rfl
theorem fl_setDead (v : Bool) : (flashCells f A n c).toArray.setIfInBounds 3 (.bool v) = (flashCells { f with dead := v } A n c).toArray := rfl
theorem fl_setByte (i : Nat) (x : UInt8) : (flashCells f A n c).toArray.setIfInBounds (4 + i) (.int .u8 (x.toNat : Int)) = (flashCells { f with S := f.S.set i x } A n c).toArray := by
  rw [List.setIfInBounds_toArray, Nat.add_comm 4 i]
  show (_ :: _ :: _ :: _ :: (bv f.S).set i _ : List Value).toArray = _
  rw [bv_set']
  rfl
theorem WM (i j : Nat) (x : UInt8) : (flashCells f A n c).toArray.setIfInBounds (4 + i + j) (.int .u8 (x.toNat : Int)) = (flashCells { f with S := f.S.set (i + j) x } A n c).toArray := by
  rw [Nat.add_assoc]; exact fl_setByte (i + j) x
end
theorem FS.weak {Q Q' : Nat → Prop} {W : World} {g : Nat} {f : FlashSt} (h : FS Q W g f) (hq : ∀ b, Q b → Q' b) : FS Q' W g f := by
  obtain ⟨A, n, c, hg, h1, h2, h3, hB, hn, hc, ha⟩ := h
  exact ⟨A, n, c, hg, h1, h2, h3, hB, hn, hc, fun a e => hq _ (ha a e)⟩
theorem FS.lt {Q : Nat → Prop} {W : World} {g : Nat} {f : FlashSt} (h : FS Q W g f) : g < W.heap.size := by
  obtain ⟨A, n, c, hg, _⟩ := h
  exact (Array.getElem?_eq_some_iff.1 hg).1
theorem FS.below {Q : Nat → Prop} {W W' : World} {g : Nat} {f : FlashSt} (h : FS Q W g f) (hb : Below W.heap.size W W') : FS Q W' g f := by
  obtain ⟨A, n, c, hg, h1, h2, h3, hB, hn, hc, ha⟩ := h
  exact ⟨A, n, c, by rw [hb.block g (Array.getElem?_eq_some_iff.1 hg).1]; exact hg, h1, h2, h3, hB.below hb, hn, hc, ha⟩
theorem FS.other {Q : Nat → Prop} {W W' : World} {g g2 : Nat} {f : FlashSt} (h : FS Q W g f) (hg2 : W.grownBy W' (some g2)) (hne : g ≠ g2) (hQ : ∀ b, Q b → b ≠ g2) : FS Q W' g f := by
  obtain ⟨A, n, c, hg, h1, h2, h3, hB, hn, hc, ha⟩ := h
  refine ⟨A, n, c, ?_, h1, h2, h3, hB.grownKeep hg2 (ha.away hQ), hn, hc, ha⟩
  rw [hg2.block g (Array.getElem?_eq_some_iff.1 hg).1 (fun h => hne (by injection h))]
  exact hg
theorem copyB {w : World} {ops : Array Oper} {rest : List Oper} {o : Oper} {a : Act} {Q : Exit → Act → World → Prop} (hgd : o.guard = none) (d s : Operand)
    (ho : o.op = .call { callee := .builtin .copy, args := #[d, s], argTypes := #[32, 32] })
    (g off dLen dCap : Nat) (A : Option Addr) (m c : Nat) (k : List UInt8) (hd : a.eval d = .slice (some ⟨g, off, none⟩) dLen dCap) (hs : a.eval s = .slice A m c) (hA : Bs w A m k)
    (cur : List Value) (t : TypeId) (hg : w.heap[g]? = some (.cells cur.toArray t (0, 0))) (hfit : off + min m dLen ≤ cur.length) (B : Nat) (w0 : World) (hb : Below B w0 w) (hBg : B ≤ g)
    (h : ∀ w', Hid (w'.heap[g]? = some (.cells (splice cur off (bv (k.take (min m dLen)))).toArray t (0, 0))) → Below B w0 w' → wpList Try.prog ops Q rest (a.put o.dst (.int .i64 (min m dLen : Nat))) w') :
    wpList Try.prog ops Q (o :: rest) a w := by
  obtain ⟨i0, hi0, hz0, hz1, hz2⟩ := info_parts byteInfo
  have hkl := hA.len
  have hl : (bv (k.take (min m dLen))).length = min m dLen := by rw [Ye, List.length_take, hkl]; omega
  have hmin : min m dLen = Nat.min m dLen := rfl
  refine wpList_copy_splice hgd d s 32 32 ho 5 Try.underlying32 (by rw [hi0]; simp [hz1]) (some ⟨g, off, none⟩) A dLen dCap m c hd hs g off cur t hg (bv (k.take (min m dLen))) (by rw [hl]) (fun hpos => ?_) (by rw [hl]; exact hfit) (WH _) B w0 hb hBg ?_
  · rw [hl] at hpos
    obtain ⟨b, o', e, hc⟩ := hA.2 (by omega)
    subst e
    refine ⟨rfl, _, rfl, fun j v hj => ?_⟩
    rw [Addr.add_lit]
    refine hc j v ?_
    rw [bv_take, List.getElem?_take] at hj
    split at hj
    · exact hj
    · cases hj
  · intro w' hw' hb'
    have := h w' hw' hb'
    rw [hl]
    exact this
/-! ### a blank memory is laid -/
def zeroByte : Value → Bool
  | .int .u8 (.ofNat 0) => true
  | _ => false
theorem zeroByte_eq {v : Value} (h : zeroByte v = true) : v = .int .u8 0 := by
  unfold zeroByte at h
  split at h
  · rfl
  · cases h
def zerosB : Nat → List Value → Bool
  | 0, [] => true
  | n + 1, v :: r => zeroByte v && zerosB n r
  | _, _ => false
theorem zerosB_eq : ∀ (n : Nat) (l : List Value), zerosB n l = true → l = List.replicate n (.int .u8 0)
  | 0, [], _ => rfl
  | n + 1, v :: r, h => by
    simp only [zerosB, Bool.and_eq_true] at h
    rw [List.replicate_succ, zeroByte_eq h.1, ← zerosB_eq n r h.2]
  | 0, _ :: _, h => by simp [zerosB] at h
  | _ + 1, [], h => by simp [zerosB] at h
def flashZeroB (n : Nat) : Value → Bool
  | .agg cs => match cs.toList with
    | .int .i64 (.ofNat 0) :: .int .i64 (.ofNat 0) :: .slice none 0 0 :: .bool false :: r => zerosB n r
    | _ => false
  | _ => false
theorem bv_zeros (n : Nat) : bv (List.replicate n 0) = List.replicate n (.int .u8 0) := by simp [bv]
theorem flashZeroB_eq {n : Nat} {v : Value} (h : flashZeroB n v = true) : v = .agg (flashCells ⟨0, 0, [], false, List.replicate n 0⟩ none 0 0).toArray := by
  unfold flashZeroB at h
  split at h
  · rename_i cs
    split at h
    · rename_i r hr
      have := zerosB_eq _ _ h
      subst this
      congr 1
      apply Array.toList_inj.1
      rw [hr]
      show _ = _ :: _ :: _ :: _ :: bv (List.replicate n 0)
      rw [bv_zeros]
      rfl
    · cases h
  · cases h
set_option maxRecDepth 1000000 in
theorem flashZero_ok : ((Try.prog.info? 52).bind (·.zero)).map (flashZeroB 6144) = some true := by kernel_rfl
theorem zero_run {P : Program} {t : TypeId} {it : TypeInfo} {z : Value} (hi : P.info? t = some it) (hz : it.zero = some z) (w : World) : (zeroValue t).run P w = .ok z w := by
  simp [zeroValue, typeInfo, hi, hz]
theorem run_zeroFlash (w : World) : (zeroValue 52).run Try.prog w = .ok (.agg (flashCells ⟨0, 0, [], false, List.replicate 6144 0⟩ none 0 0).toArray) w := by
  have h := flashZero_ok
  cases hi : Try.prog.info? 52 with
  | none => rw [hi] at h; cases h
  | some it =>
    rw [hi] at h
    cases hz : it.zero with
    | none => simp [hz] at h
    | some z =>
      simp only [Option.bind_some, hz, Option.map_some, Option.some.injEq] at h
      rw [← flashZeroB_eq h]
      exact zero_run hi hz w
end Go.Proofs.Ytkncomkncfcecaa
