/- Rows that the laws save, plainly. -/
import Derived.Test.YtcpifcdndhhmgaaRetKnown
set_option linter.unusedVariables false
set_option linter.unusedSimpArgs false
namespace Go.Proofs.Ytcpifcdndhhmgaa
open Go.RowKit
def pth (j : Nat) : List UInt8 := [112, UInt8.ofNat (97 + j)]
def itA (v : Int) (i j : Nat) : KepS := ⟨pth j, 6, bits .xor .i64 (bits .xor .i64 v (i : Int)) (j : Int)⟩
def itT (j : Nat) : KepS := ⟨pth j, 5, (j : Int)⟩
def rowOf (it : Nat → KepS) (c : Nat) : List KepS := (List.range c).map it
theorem rowOf_len (it : Nat → KepS) (c : Nat) : (rowOf it c).length = c := by simp [rowOf]
theorem rowOf_next (it : Nat → KepS) (c : Nat) : rowOf it (c + 1) = rowOf it c ++ [it c] := by simp [rowOf, List.range_succ]
theorem rowOf_ok (it : Nat → KepS) (c n : Nat) (hc : c ≤ 24) (hn : n < 1000) (h : ∀ j, j < c → KepOk (it j)) : CkOk ((n + 1 : Nat) : Int) (rowOf it c) :=
  ⟨by omega, by rw [rowOf_len]; exact hc, fun k hk => by
    obtain ⟨j, hj, rfl⟩ := List.mem_map.1 hk
    exact h j (List.mem_range.1 hj)⟩
theorem itT_ok (j : Nat) (hj : j < 24) : KepOk (itT j) := ⟨by show 2 ≤ 65535; omega, by show _ ∧ _; dsimp only [itT]; omega, by
  have h : wrapK 5 (j : Int) = (j : Int) := by
    show IntKind.i32.wrap (j : Int) = _
    rw [IntWalk.i32_left]; unfold wrap32; omega
  show mayK ⟨pth j, 5, (j : Int)⟩ = true
  simp [mayK, h]⟩
theorem rowOf_bytes (it : Nat → KepS) (c : Nat) (q : Int) (hc : c ≤ 24) (h : ∀ j, (it j).path.length = 2) : (bytesK q (rowOf it c)).length ≤ 1018 := by
  rw [length_bytesK]
  have h1 := length_kepsB (rowOf it c) 2 (fun k hk => by
    obtain ⟨j, hj, rfl⟩ := List.mem_map.1 hk
    rw [h j]; omega) (by omega)
  rw [rowOf_len] at h1
  omega
theorem u8_97 (s j : Nat) (h : 97 + j = s) (hj : j < 24) : (s : Int) = ((UInt8.ofNat (97 + j)).toNat : Int) := by
  rw [UInt8.toNat_ofNat']; omega
structure AInv (i : Nat) (f : FlashSt) : Prop where
  live : Live f
  kep : ∃ l, KepI f i l
theorem AInv.step {i : Nat} {f : FlashSt} (h : AInv i f) (hi : i < 100) (k : List KepS) (hk : CkOk ((i + 1 : Nat) : Int) k) (hb : (bytesK ((i + 1 : Nat) : Int) k).length ≤ 1018) : ∃ f', saveK f k = (0, f') ∧ AInv (i + 1) f' ∧ ∃ s : Int, newK f' = (((i + 1 : Nat) : Int), k, s) := by
  obtain ⟨L, l, K⟩ := h
  obtain ⟨f', h1, h2, h3, _⟩ := K.save L (by omega) k hk hb
  obtain ⟨s, _, h4⟩ := h3.new
  exact ⟨f', h1, ⟨h2, k, h3⟩, s, h4⟩
/-- a row of one's own beside a memory -/
structure RowM (w W : World) (g B : Nat) (f : FlashSt) (v : Value) (n : Nat) (l : List KepS) : Prop where
  fs : FS NoB W g f
  own : W.ownsRow B 29 3 v n (flatK l)
  gB : g < B
  BW : B ≤ W.heap.size
  ge : w.heap.size ≤ g
  bel : Below w.heap.size w W
section
variable {w W W' : World} {g B n : Nat} {f f' : FlashSt} {v v' : Value} {l : List KepS}
theorem RowM.below (h : RowM w W g B f v n l) (hb : Below W.heap.size W W') : RowM w W' g B f v n l := ⟨h.fs.below hb, own_below h.own hb, h.gB, Nat.le_trans h.BW hb.size, h.ge, below_then h.bel hb h.bel.size⟩
theorem RowM.ne (h : RowM w W g B f v n l) : v.ownBlock = none ∨ v.ownBlock ≠ some g := by
  cases hv : v.ownBlock with
  | none => exact .inl rfl
  | some b => have := (h.own.lt b hv).1; have := h.gB; exact .inr (fun hh => by injection hh with hh; omega)
theorem RowM.mem (h : RowM w W g B f v n l) (hF : FS NoB W' g f') (hg : W.grownBy W' (some g)) : RowM w W' g B f' v n l := ⟨hF, h.own.kept hg h.ne, h.gB, Nat.le_trans h.BW hg.size, h.ge, below_grown h.bel hg h.bel.size h.ge⟩
theorem RowM.app (h : RowM w W g B f v n l) {m : Nat} {k : List KepS} (ho : W'.ownsRow B 29 3 v' m (flatK k)) (hg : W.grownBy W' v.ownBlock) : RowM w W' g B f v' m k := by
  have hb : ∃ b, g < b ∧ W.grownBy W' (some b) := by
    cases hv : v.ownBlock with
    | none => rw [hv] at hg; exact ⟨B, h.gB, grownNone hg _⟩
    | some b => rw [hv] at hg; have := (h.own.lt b hv).1; have := h.gB; exact ⟨b, by omega, hg⟩
  obtain ⟨b, hgb, hg⟩ := hb
  exact ⟨h.fs.other hg (by omega) (fun _ h => h.elim), ho, h.gB, Nat.le_trans h.BW hg.size, h.ge, below_grown h.bel hg h.bel.size (by have := h.ge; omega)⟩
theorem RowM.away (h : RowM w W g B f v n l) (hl : l.length = n) : ∃ A c, v = .slice A n c ∧ KeS W A n l := by
  obtain ⟨A, c, hv, h1, _⟩ := own_kes h.own hl
  exact ⟨A, c, hv, h1⟩
end
attribute [local go_sem] ev_tmp ev_const ev_func ev_global lk_hit lk_miss uponK_value uponK_skip look_tmp look_const look_global look_func valP_value
end Go.Proofs.Ytcpifcdndhhmgaa
