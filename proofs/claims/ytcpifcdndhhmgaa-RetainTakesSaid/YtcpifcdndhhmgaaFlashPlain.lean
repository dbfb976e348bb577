/- The arguments of a law, opened into words for memory; no program in sight. The flash memory, plain: what each of its operations makes of its bytes; no program in sight. -/
import Derived.Test.YtcpifcdndhhmgaaLib
import Derived.ProofKit
import Derived.OpenShut
import Derived.ShutString
import Derived.ChangeOld
import Derived.SizedLaws
import Derived.Deep.Matrix
import Derived.SliceStrings
set_option linter.unusedVariables false
set_option linter.unusedSimpArgs false
namespace Go.Proofs.Ytcpifcdndhhmgaa
open Go.ChangeShapes Go.WideShapes Go.ChangeAt Go.RowKit Go.Deep
open Go.ChangeMaps (open_string shut_string)

section
variable {H : Type} {enc : TypeId × Value → H} {P : Program} {W : World}

theorem reach_val : reachBytes = 140737488351232 := by decide

/-- bytes out of numbers -/
def toBytes (zs : List Int) : List UInt8 := zs.map fun z => UInt8.ofNat z.toNat
theorem weightsAll_mem {e : TypeId} {d : DataW H} : ∀ {ds : List (DataW H)}, d ∈ ds → ∀ n ∈ d.weights P e, n ∈ DataW.weightsAll P e ds
  | x :: ds, h, n, hn => by
    simp only [DataW.weightsAll, List.mem_append]
    rcases List.mem_cons.1 h with rfl | h
    · exact .inl hn
    · exact .inr (weightsAll_mem h n hn)

/-- all of a datum's sizes are within the reach -/
def Sized (P : Program) (t : TypeId) (d : DataW H) : Prop := ∀ n ∈ d.weights P t, n ≤ 140737488351232
theorem sized_arg {ts : List TypeId} {ds : List (DataW H)} (h : (DataW.weightsEach P ts ds).all (· ≤ reachBytes) = true) {j : Nat} {t : TypeId} {d : DataW H} (ht : ts[j]? = some t) (hd : ds[j]? = some d) : Sized P t d := by
  intro n hn
  have := List.all_eq_true.1 h n (DataW.weights_mem_each ht hd n hn)
  rw [reach_val] at this
  simpa using this
theorem Sized.slice {t e : TypeId} {elems spare : List (DataW H)} (hu : P.underlying t = some (.slice e)) (h : Sized P t (.slice elems spare)) :
    (elems.length + spare.length) * P.bytesOf e ≤ 140737488351232 ∧ ∀ d ∈ elems, Sized P e d := by
  refine ⟨h _ (by simp [DataW.weights, hu]), fun d hd n hn => h n ?_⟩
  simp only [DataW.weights, hu, List.mem_cons, List.mem_append]
  exact .inr (.inl (weightsAll_mem hd n hn))

/-- '[]int' -/
theorem open_intsI {t e : TypeId} {v : Value} {d : DataW H} {p : List MemPlace} {b : Nat} {r : Reach} {h63 : Bool} (ht : P.underlying t = some (.slice e)) (he : P.underlying e = some (.int .i64)) (hc : P.cellsOf e = 1) (hby : P.bytesOf e = 8)
    (hval : Value.okWide P W r b t v) (h : DataW.Trod enc P W 0 (fun _ => true) h63 t v d p) (hs : Sized P t d) :
    ∃ (A : Option Addr) (n c : Nat) (zs : List Int), v = .slice A n c ∧ Vs W A n (zs.map (Value.int .i64)) ∧ n ≤ c ∧ c ≤ 140737488351232 ∧ ∀ z ∈ zs, -9223372036854775808 ≤ z ∧ z ≤ 9223372036854775807 := by
  obtain ⟨A, n, c, rfl⟩ := okWide_slice ht hval
  obtain ⟨fuel, hf⟩ := h
  rcases open_ints ht he hc hf with ⟨hcs, _⟩ | ⟨x, l, c', zs, hcs, _, hl, hm, hz, hx, hcell, hwz⟩
  · simp [Value.cells] at hcs
    obtain ⟨rfl, rfl, rfl⟩ := hcs
    exact ⟨none, 0, 0, [], rfl, Vs.nil _ _, Nat.le_refl _, by omega, fun z hz => by cases hz⟩
  · simp [Value.cells] at hcs
    obtain ⟨rfl, rfl, rfl⟩ := hcs
    simp only [if_true] at hz
    simp only [Prod.mk.injEq] at hx
    rw [hx.1] at hs
    have h2 := (hs.slice ht).1
    rw [hby] at h2
    simp only [lits, List.length_map, List.length_take, List.length_drop] at h2
    refine ⟨some x, n, c, zs.take n, rfl, ⟨by simp; omega, fun hn => ?_⟩, hl, by omega, fun z hzz => ?_⟩
    · have hspot : x.spot = none := World.cell?_spot (by simpa [Addr.add] using hcell 0 (by omega))
      obtain ⟨xb, xo, xs⟩ := x
      dsimp only at hspot
      subst hspot
      refine ⟨xb, xo, rfl, fun i u hu => ?_⟩
      simp only [List.getElem?_map, Option.map_eq_some_iff] at hu
      obtain ⟨z, hz', rfl⟩ := hu
      have hi : i < n ∧ zs[i]? = some z := by
        rw [List.getElem?_take] at hz'
        split at hz'
        · exact ⟨by assumption, hz'⟩
        · cases hz'
      have := hcell i (by omega)
      rw [Addr.add_lit] at this
      rw [this, List.getD_eq_getElem?_getD, hi.2]
      rfl
    · have := hwz z (List.mem_of_mem_take hzz)
      simpa [Lit.wf, IntKind.min, IntKind.max, IntKind.signed, IntKind.bits] using this
theorem str_list (s : ByteArray) : ∃ t : List UInt8, s = ⟨t.toArray⟩ := ⟨s.data.toList, by cases s; simp⟩
theorem i64_bounds {z : Int} (h : (Lit.int .i64 z).wf = true) : -9223372036854775808 ≤ z ∧ z ≤ 9223372036854775807 := by
  simpa [Lit.wf, IntKind.min, IntKind.max, IntKind.signed, IntKind.bits] using h
end
end Go.Proofs.Ytcpifcdndhhmgaa
set_option linter.unusedVariables false
set_option linter.unusedSimpArgs false
namespace Go.Proofs.Ytcpifcdndhhmgaa
open Go.RowKit

/-- a memory's state: operations till the power goes (0: it will not), operations done, what is done of that one, whether the power is gone, the sectors' bytes -/
structure FlashSt where
  left : Int
  done : Int
  mask : List UInt8
  dead : Bool
  S : List UInt8

def spendF (f : FlashSt) : FlashSt :=
  if 0 < f.left then { f with done := wrap64 (f.done + 1), left := f.left - 1, dead := f.left - 1 == 0 } else { f with done := wrap64 (f.done + 1) }
theorem spendF_S (f : FlashSt) : (spendF f).S = f.S := by unfold spendF; split <;> rfl
theorem spendF_mask (f : FlashSt) : (spendF f).mask = f.mask := by unfold spendF; split <;> rfl

/-- which bits are done of byte i -/
def mByte (whole : Bool) (mask : List UInt8) (i : Nat) : UInt8 := if whole = true then 255 else if mask.length = 0 then 0 else mask.getD (i % mask.length) 0
def layB (m old to : UInt8) : UInt8 := (old &&& ~~~m) ||| (to &&& m)
/-- n bytes are laid on what stands at 'off' -/
def layS (whole : Bool) (mask to : List UInt8) (off : Nat) : Nat → List UInt8 → List UInt8
  | 0, S => S
  | k + 1, S => (layS whole mask to off k S).set (off + k) (layB (mByte whole mask k) ((layS whole mask to off k S).getD (off + k) 0) (to.getD k 0))
theorem length_layS (whole : Bool) (mask to : List UInt8) (off n : Nat) (S : List UInt8) : (layS whole mask to off n S).length = S.length := by
  induction n with
  | zero => rfl
  | succ k ih => simp [layS, ih]
theorem layS_at (whole : Bool) (mask to : List UInt8) (off n : Nat) (S : List UInt8) (i : Nat) (hi : i < S.length) :
    (layS whole mask to off n S)[i]? = some (if off ≤ i ∧ i < off + n then layB (mByte whole mask (i - off)) (S.getD i 0) (to.getD (i - off) 0) else S.getD i 0) := by
  induction n with
  | zero => rw [if_neg (by omega)]; simp [layS, hi]
  | succ k ih =>
    simp only [layS]
    by_cases he : off + k = i
    · subst he
      rw [List.getElem?_set_self (by rw [length_layS]; exact hi), if_pos (by omega), show off + k - off = k by omega]
      have h2 : (layS whole mask to off k S).getD (off + k) 0 = S.getD (off + k) 0 := by
        rw [List.getD_eq_getElem?_getD, ih, if_neg (by omega)]; rfl
      rw [h2]
    · rw [List.getElem?_set_ne he, ih]
      congr 1
      by_cases h1 : off ≤ i ∧ i < off + k
      · rw [if_pos h1, if_pos (by omega)]
      · rw [if_neg h1, if_neg (by omega)]
theorem layS_getD (whole : Bool) (mask to : List UInt8) (off n : Nat) (S : List UInt8) (i : Nat) (hi : i < S.length) :
    (layS whole mask to off n S).getD i 0 = if off ≤ i ∧ i < off + n then layB (mByte whole mask (i - off)) (S.getD i 0) (to.getD (i - off) 0) else S.getD i 0 := by
  rw [List.getD_eq_getElem?_getD, layS_at _ _ _ _ _ _ _ hi]; rfl
theorem u8_and_255 (x : UInt8) : x &&& 255 = x := by
  apply UInt8.toNat_inj.1
  rw [UInt8.toNat_and]
  exact Nat.and_two_pow_sub_one_of_lt_two_pow (n := 8) (byte_lt x)
theorem layB_all (old to : UInt8) : layB 255 old to = to := by
  unfold layB
  have h1 : (~~~(255 : UInt8)) = 0 := by decide
  rw [h1, UInt8.and_zero, UInt8.zero_or]
  exact u8_and_255 to
/-! ### a program and an erasure -/
/-- bytes, filled with blanks up to a page -/
def pad (b : List UInt8) : List UInt8 := b ++ List.replicate (16 - b.length) 255
theorem length_pad (b : List UInt8) (h : b.length ≤ 16) : (pad b).length = 16 := by simp [pad]; omega
/-- whether a page's bytes can be set -/
def fits (b : List UInt8) (off : Nat) (S : List UInt8) : Nat → Bool
  | 0 => true
  | k + 1 => fits b off S k && (((pad b).getD k 0 &&& ~~~(S.getD (off + k) 0)) == 0)
theorem fits_mono (b : List UInt8) (off : Nat) (S : List UInt8) {k m : Nat} (hk : k ≤ m) (h : fits b off S k = false) : fits b off S m = false := by
  induction m with
  | zero => rw [show k = 0 by omega] at h; exact h
  | succ m ih =>
    by_cases he : k = m + 1
    · rw [← he]; exact h
    · unfold fits; rw [ih (by omega)]; rfl
def progF (f : FlashSt) (s p : Int) (b : List UInt8) : Int × FlashSt :=
  if f.dead = true then (14, f)
  else if s < 0 ∨ 6 ≤ s ∨ p < 0 ∨ 64 ≤ p then (12, f)
  else if 16 < b.length then (5, f)
  else if fits b (s.toNat * 1024 + p.toNat * 16) f.S 16 = false then (13, f)
  else (if (spendF f).dead = true then 14 else 0, { spendF f with S := layS (!(spendF f).dead) f.mask (pad b) (s.toNat * 1024 + p.toNat * 16) 16 f.S })
def eraseF (f : FlashSt) (s : Int) : Int × FlashSt :=
  if f.dead = true then (14, f)
  else if s < 0 ∨ 6 ≤ s then (12, f)
  else (if (spendF f).dead = true then 14 else 0, { spendF f with S := layS (!(spendF f).dead) f.mask (List.replicate 1024 255) (s.toNat * 1024) 1024 f.S })
def readF (f : FlashSt) (s : Int) : List UInt8 := if s < 0 ∨ 6 ≤ s then [] else (f.S.drop (s.toNat * 1024)).take 1024
def newF : FlashSt := ⟨0, 0, [], false, List.replicate 6144 255⟩
def stopF (f : FlashSt) (n : Int) (m : List UInt8) : FlashSt := { f with left := max n 0, mask := m }
def startF (f : FlashSt) : FlashSt := { f with left := 0, mask := [], dead := false }

/-! ### bytes' operations -/
theorem u8n_and (a b : UInt8) : bits .and .u8 (a.toNat : Int) (b.toNat : Int) = ((a &&& b).toNat : Int) := by
  rw [u8_and_nat _ _ (byte_lt a) (byte_lt b), UInt8.toNat_and]
theorem u8n_or (a b : UInt8) : bits .or .u8 (a.toNat : Int) (b.toNat : Int) = ((a ||| b).toNat : Int) := by
  rw [u8_or_nat _ _ (byte_lt a) (byte_lt b), UInt8.toNat_or]
theorem u8n_andNot (a b : UInt8) : bits .andNot .u8 (a.toNat : Int) (b.toNat : Int) = ((a &&& ~~~b).toNat : Int) := by
  rw [u8_andNot_nat _ _ (byte_lt a) (byte_lt b), UInt8.toNat_and]
  congr 2
  rw [UInt8.toNat_not]
  rfl
theorem u8_zero (x : UInt8) : ((x.toNat : Int) != 0) = !(x == 0) := by
  by_cases h : x = 0
  · subst h; rfl
  · have : x.toNat ≠ 0 := fun e => h (UInt8.toNat_inj.1 e)
    rw [beq_eq_false_iff_ne.2 h]
    simp only [Bool.not_false, bne_iff_ne, ne_eq]
    omega
end Go.Proofs.Ytcpifcdndhhmgaa
