/- Sealed bytes, and what opening them answers, as plain mathematics. -/
import Derived.Test.YtblidiecahpekaaCrcPlain
set_option linter.unusedVariables false
set_option linter.unusedSimpArgs false
namespace Go.Proofs.Ytblidiecahpekaa

def u8n (n : Nat) : UInt8 := UInt8.ofNat n
theorem u8n_toNat (n : Nat) : (u8n n).toNat = n % 256 := by simp [u8n]
/-- the six bytes ahead -/
def sealHead (l : List UInt8) : List UInt8 :=
  [u8n l.length, u8n (l.length / 256), u8n (crc l).toNat, u8n ((crc l).toNat / 256), u8n ((crc l).toNat / 65536), u8n ((crc l).toNat / 16777216)]
def sealed (l : List UInt8) : List UInt8 := sealHead l ++ l
theorem length_sealHead (l : List UInt8) : (sealHead l).length = 6 := rfl
theorem length_sealed (l : List UInt8) : (sealed l).length = l.length + 6 := by simp [sealed, length_sealHead]; omega

/-- the number of n bytes, the lowest first -/
def le (l : List UInt8) : Nat := l.foldr (fun x r => x.toNat + 256 * r) 0

/-- opening: the bytes, how many were read, the error's number -/
def opened (b : List UInt8) : List UInt8 × Nat × Nat :=
  if b.length < 6 then ([], 0, 8)
  else if b.length - 6 < le (b.take 2) then ([], 0, 8)
  else if (crc ((b.drop 6).take (le (b.take 2)))).toNat ≠ le ((b.drop 2).take 4) then ([], 0, 10)
  else ((b.drop 6).take (le (b.take 2)), 6 + le (b.take 2), 0)

theorem le_inj : ∀ (a b : List UInt8), a.length = b.length → le a = le b → a = b
  | [], [], _, _ => rfl
  | x :: a, y :: b, hl, h => by
    simp only [le, List.foldr_cons] at h
    have hx := byte_lt x
    have hy := byte_lt y
    have e : x = y := UInt8.toNat_inj.1 (by omega)
    have hr : le a = le b := by unfold le; omega
    rw [e, le_inj a b (by simpa using hl) hr]
  | [], _ :: _, hl, _ => by simp at hl
  | _ :: _, [], hl, _ => by simp at hl

theorem le_head2 (n : Nat) (h : n ≤ 65535) : le [u8n n, u8n (n / 256)] = n := by
  simp only [le, List.foldr_cons, List.foldr_nil, u8n_toNat]; omega
theorem le_head4 (c : Nat) (h : c < 4294967296) : le [u8n c, u8n (c / 256), u8n (c / 65536), u8n (c / 16777216)] = c := by
  simp only [le, List.foldr_cons, List.foldr_nil, u8n_toNat]; omega

theorem sealed_take2 (l m : List UInt8) : (sealed l ++ m).take 2 = [u8n l.length, u8n (l.length / 256)] := rfl
theorem sealed_mid4 (l m : List UInt8) : ((sealed l ++ m).drop 2).take 4 = [u8n (crc l).toNat, u8n ((crc l).toNat / 256), u8n ((crc l).toNat / 65536), u8n ((crc l).toNat / 16777216)] := rfl
theorem sealed_drop6 (l m : List UInt8) : (sealed l ++ m).drop 6 = l ++ m := rfl

/-- what was sealed is opened as it was, whatever stands behind it -/
theorem opened_sealed (l m : List UInt8) (hl : l.length ≤ 65535) : opened (sealed l ++ m) = (l, 6 + l.length, 0) := by
  unfold opened
  rw [sealed_take2, le_head2 _ hl, sealed_mid4, le_head4 _ (crc l).isLt, sealed_drop6]
  have h1 : (sealed l ++ m).length = l.length + 6 + m.length := by rw [List.length_append, length_sealed]
  rw [if_neg (by omega), if_neg (by omega), List.take_left, if_neg (by omega)]
theorem opened_sealed' (l : List UInt8) (hl : l.length ≤ 65535) : opened (sealed l) = (l, 6 + l.length, 0) := by
  have := opened_sealed l [] hl
  rwa [List.append_nil] at this

/-- a front of what was sealed is cut -/
theorem opened_cut (l : List UInt8) (k : Nat) (hl : l.length ≤ 65535) (hk : k < l.length + 6) : opened ((sealed l).take k) = ([], 0, 8) := by
  have h1 : ((sealed l).take k).length = k := by rw [List.length_take, length_sealed]; omega
  unfold opened
  rw [h1]
  by_cases h6 : k < 6
  · rw [if_pos h6]
  · rw [if_neg h6]
    have h2 : ((sealed l).take k).take 2 = [u8n l.length, u8n (l.length / 256)] := by
      rw [List.take_take, Nat.min_eq_left (by omega)]; rfl
    rw [h2, le_head2 _ hl, if_pos (by omega)]

/-- a bit that is turned behind the length is found -/
theorem opened_turned (l : List UInt8) (i : Nat) (z y : UInt8) (hl : l.length ≤ 65535) (hi : i < l.length + 4) (hz : (sealed l)[2 + i]? = some z) (hy : z ≠ y) :
    opened ((sealed l).set (2 + i) y) = ([], 0, 10) := by
  have h1 : ((sealed l).set (2 + i) y).length = l.length + 6 := by rw [List.length_set, length_sealed]
  have h2 : ((sealed l).set (2 + i) y).take 2 = [u8n l.length, u8n (l.length / 256)] := by
    rw [List.take_set, List.set_eq_of_length_le (by rw [List.length_take]; omega)]; rfl
  unfold opened
  rw [h1, h2, le_head2 _ hl, if_neg (by omega), if_neg (by omega)]
  have hd : ((sealed l).set (2 + i) y).drop 2 = ((sealed l).drop 2).set i y := by
    rw [List.drop_set, if_neg (by omega), Nat.add_sub_cancel_left]
  by_cases h4 : i < 4
  · have e1 : (((sealed l).set (2 + i) y).drop 6).take l.length = l := by
      rw [List.drop_set_of_lt (by omega)]
      show l.take l.length = l
      exact List.take_length
    have e2 : (((sealed l).set (2 + i) y).drop 2).take 4 = (((sealed l).drop 2).take 4).set i y := by rw [hd, List.take_set]
    rw [e1, e2, if_pos]
    intro e
    have hc : (crc l).toNat = le (((sealed l).drop 2).take 4) := (le_head4 _ (crc l).isLt).symm
    rw [hc] at e
    have h3 := le_inj _ _ (by simp) e
    have h4' := congrArg (fun q => q[i]?) h3
    simp only [List.getElem?_take, if_pos h4, List.getElem?_drop, hz] at h4'
    rw [List.getElem?_set_self] at h4'
    · injection h4' with h4'; exact hy h4'
    · rw [List.length_take, List.length_drop, length_sealed]; omega
  · have e1 : (((sealed l).set (2 + i) y).drop 6).take l.length = l.set (i - 4) y := by
      rw [List.drop_set, if_neg (by omega), show 2 + i - 6 = i - 4 by omega]
      show (l.set (i - 4) y).take l.length = _
      rw [← @List.length_set _ l (i - 4) y]
      exact List.take_length
    have e2 : (((sealed l).set (2 + i) y).drop 2).take 4 = ((sealed l).drop 2).take 4 := by
      rw [hd, List.take_set, List.set_eq_of_length_le (by rw [List.length_take]; omega)]
    have hz' : l[i - 4]? = some z := by
      rw [← hz]
      unfold sealed
      rw [List.getElem?_append_right (by rw [length_sealHead]; omega), length_sealHead]
      congr 1
      omega
    rw [e1, e2, if_pos]
    intro e
    have hc : (crc l).toNat = le (((sealed l).drop 2).take 4) := (le_head4 _ (crc l).isLt).symm
    rw [← hc] at e
    exact crc_set l (i - 4) z y hz' hy (BitVec.eq_of_toNat_eq e)
end Go.Proofs.Ytblidiecahpekaa
