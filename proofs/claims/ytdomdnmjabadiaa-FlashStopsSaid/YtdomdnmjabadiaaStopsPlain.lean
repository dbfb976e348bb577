/- FlashStops, plain: a memory whose power goes at operation n. -/
import Derived.Test.YtdomdnmjabadiaaTornPlain
namespace Go.Proofs.Ytdomdnmjabadiaa
open Go.RowKit

/-- 'ops' of n operations are done, i pages were gone through -/
structure Alive (n ops i : Nat) (f : FlashSt) : Prop where
  dead : f.dead = false
  left : f.left = ((n - ops : Nat) : Int)
  done : f.done = (ops : Int)
  mask : f.mask = [255]
  len : f.S.length = 6144
  blank : ∀ s x, s < 6 → i * 16 ≤ x → x < 1024 → f.S.getD (s * 1024 + x) 0 = 255
def DeadAt (f : FlashSt) : Prop := f.dead = true ∧ f.S.length = 6144
/-- how it stands behind an operation -/
def After (n ops i : Nat) (f : FlashSt) : Prop := if ops < n then Alive n ops i f else DeadAt f ∧ f.done = (n : Int)

theorem mByte_all (k : Nat) : mByte false [255] k = 255 := by
  unfold mByte
  rw [if_neg (by simp), if_neg (by simp)]
  simp [Nat.mod_one]
theorem lay_255 (wh : Bool) (tb : List UInt8) (off n : Nat) (S : List UInt8) (i : Nat) (hi : i < S.length) :
    (layS wh [255] tb off n S).getD i 0 = if off ≤ i ∧ i < off + n then tb.getD (i - off) 0 else S.getD i 0 := by
  rw [layS_getD _ _ _ _ _ _ _ hi]
  have : mByte wh [255] (i - off) = 255 := by
    cases wh
    · exact mByte_all _
    · rfl
  rw [this, layB_all]
theorem spend_alive {n ops i : Nat} {f : FlashSt} (h : Alive n ops i f) (ho : ops < n) (hn : n ≤ 100) :
    (spendF f).dead = decide (ops + 1 = n) ∧ (spendF f).left = ((n - (ops + 1) : Nat) : Int) ∧ (spendF f).done = ((ops + 1 : Nat) : Int) := by
  have hl := h.left
  have hd := h.done
  unfold spendF
  rw [if_pos (by omega)]
  dsimp only
  refine ⟨?_, by omega, by rw [hd]; unfold wrap64; omega⟩
  by_cases he : ops + 1 = n
  · rw [decide_eq_true he, beq_iff_eq]; omega
  · rw [decide_eq_false he, beq_eq_false_iff_ne]; omega
theorem after_of {n ops i : Nat} {f : FlashSt} {S : List UInt8} (h : Alive n ops i f) (ho : ops < n) (hn : n ≤ 100) (hS : S.length = 6144) (hb : ∀ s x, s < 6 → (i + 1) * 16 ≤ x → x < 1024 → S.getD (s * 1024 + x) 0 = 255) :
    After n (ops + 1) (i + 1) { spendF f with S := S } := by
  obtain ⟨h1, h2, h3⟩ := spend_alive h ho hn
  unfold After
  by_cases he : ops + 1 < n
  · rw [if_pos he]
    exact ⟨by show (spendF f).dead = false; rw [h1, decide_eq_false (by omega)], h2, h3, by show (spendF f).mask = _; rw [spendF_mask]; exact h.mask, hS, hb⟩
  · rw [if_neg he]
    exact ⟨⟨by show (spendF f).dead = true; rw [h1, decide_eq_true (by omega)], hS⟩, by show (spendF f).done = _; rw [h3]; omega⟩
theorem stops_prog {n ops i : Nat} {f : FlashSt} (h : Alive n ops i f) (ho : ops < n) (hn : n ≤ 100) (k : Nat) (hk : k < 6) (hi : i < 25) (x : UInt8) :
    ∃ f', progF f k i [x] = (if ops + 1 = n then 14 else 0, f') ∧ After n (ops + 1) (i + 1) f' ∧ f'.done = ((ops + 1 : Nat) : Int) := by
  obtain ⟨h1, h2, h3⟩ := spend_alive h ho hn
  have e : progF f k i [x] = (if (spendF f).dead = true then 14 else 0, { spendF f with S := layS (!(spendF f).dead) f.mask (pad [x]) (k * 1024 + i * 16) 16 f.S }) := by
    unfold progF
    rw [h.dead, if_neg (by simp), if_neg (by omega), if_neg (by simp), Int.toNat_natCast, Int.toNat_natCast, fits_blank [x] _ _ (fun j hj => by
      have := h.blank k (i * 16 + j) hk (by omega) (by omega)
      rwa [show k * 1024 + i * 16 + j = k * 1024 + (i * 16 + j) by omega]), if_neg (by simp)]
  have hlen : (layS (!(spendF f).dead) f.mask (pad [x]) (k * 1024 + i * 16) 16 f.S).length = 6144 := by rw [length_layS, h.len]
  have hL : ∀ s y, s < 6 → (i + 1) * 16 ≤ y → y < 1024 → (layS (!(spendF f).dead) f.mask (pad [x]) (k * 1024 + i * 16) 16 f.S).getD (s * 1024 + y) 0 = 255 := fun s y hs hy1 hy2 => by
    rw [h.mask, lay_255 _ _ _ _ _ _ (by rw [h.len]; omega)]
    by_cases hin : k * 1024 + i * 16 ≤ s * 1024 + y ∧ s * 1024 + y < k * 1024 + i * 16 + 16
    · omega
    · rw [if_neg hin]; exact h.blank s y hs (by omega) hy2
  generalize layS (!(spendF f).dead) f.mask (pad [x]) (k * 1024 + i * 16) 16 f.S = S' at e hL hlen
  refine ⟨_, ?_, after_of h ho hn hlen hL, h3⟩
  rw [e, h1]
  by_cases he : ops + 1 = n
  · rw [decide_eq_true he, if_pos rfl, if_pos he]
  · rw [decide_eq_false he, if_neg (by simp), if_neg he]
theorem stops_erase {n ops i : Nat} {f : FlashSt} (h : Alive n ops i f) (ho : ops < n) (hn : n ≤ 100) (k : Nat) (hk : k < 6) :
    ∃ f', eraseF f k = (if ops + 1 = n then 14 else 0, f') ∧ After n (ops + 1) (i + 1) f' ∧ f'.done = ((ops + 1 : Nat) : Int) := by
  obtain ⟨h1, h2, h3⟩ := spend_alive h ho hn
  have e : eraseF f k = (if (spendF f).dead = true then 14 else 0, { spendF f with S := layS (!(spendF f).dead) f.mask (List.replicate 1024 255) (k * 1024) 1024 f.S }) := by
    unfold eraseF; rw [h.dead, if_neg (by simp), if_neg (by omega), Int.toNat_natCast]
  have hlen : (layS (!(spendF f).dead) f.mask (List.replicate 1024 255) (k * 1024) 1024 f.S).length = 6144 := by rw [length_layS, h.len]
  have hL : ∀ s y, s < 6 → (i + 1) * 16 ≤ y → y < 1024 → (layS (!(spendF f).dead) f.mask (List.replicate 1024 255) (k * 1024) 1024 f.S).getD (s * 1024 + y) 0 = 255 := fun s y hs hy1 hy2 => by
    rw [h.mask, lay_255 _ _ _ _ _ _ (by rw [h.len]; omega)]
    by_cases hin : k * 1024 ≤ s * 1024 + y ∧ s * 1024 + y < k * 1024 + 1024
    · rw [if_pos hin, List.getD_eq_getElem?_getD (l := List.replicate 1024 255), List.getElem?_replicate, if_pos (by omega)]; rfl
    · rw [if_neg hin]; exact h.blank s y hs (by omega) hy2
  generalize layS (!(spendF f).dead) f.mask (List.replicate 1024 255) (k * 1024) 1024 f.S = S' at e hL hlen
  refine ⟨_, ?_, after_of h ho hn hlen hL, h3⟩
  rw [e, h1]
  by_cases he : ops + 1 = n
  · rw [decide_eq_true he, if_pos rfl, if_pos he]
  · rw [decide_eq_false he, if_neg (by simp), if_neg he]
theorem stops_none {n ops i : Nat} {f : FlashSt} (h : Alive n ops i f) : Alive n ops (i + 1) f :=
  ⟨h.dead, h.left, h.done, h.mask, h.len, fun s x hs h1 h2 => h.blank s x hs (by omega) h2⟩
theorem stops_start (n : Nat) (hn : 0 < n) : Alive n 0 0 (stopF (stopF newF 3 []) (n : Int) [255]) := by
  refine ⟨rfl, ?_, rfl, rfl, newF_len, fun s x hs _ hx => newF_at _ (by omega)⟩
  show max (n : Int) 0 = _
  omega
end Go.Proofs.Ytdomdnmjabadiaa
