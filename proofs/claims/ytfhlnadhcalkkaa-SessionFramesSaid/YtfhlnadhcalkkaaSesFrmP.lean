/- Sealed bytes, and what opening them answers, as plain mathematics. Frames, plain: how they are written, how they are read. -/
import Derived.Test.YtfhlnadhcalkkaaCrcPlain
import Derived.Test.YtfhlnadhcalkkaaConcat
namespace Go.Proofs.Ytfhlnadhcalkkaa

def u8n (n : Nat) : UInt8 := UInt8.ofNat n
theorem u8n_toNat (n : Nat) : (u8n n).toNat = n % 256 := by simp [u8n]
/-- the six bytes ahead -/
def sealHead (l : List UInt8) : List UInt8 :=
  [u8n l.length, u8n (l.length / 256), u8n (crc l).toNat, u8n ((crc l).toNat / 256), u8n ((crc l).toNat / 65536), u8n ((crc l).toNat / 16777216)]
def sealed (l : List UInt8) : List UInt8 := sealHead l ++ l
theorem length_sealHead (l : List UInt8) : (sealHead l).length = 6 := rfl
theorem length_sealed (l : List UInt8) : (sealed l).length = l.length + 6 := by simp [sealed, length_sealHead]; omega

/-- the number of n bytes, the lowest first -/
def le (l : List UInt8) : Nat := l.foldr (fun x r => x.toNat + 256 * r) 0

/-- opening: the bytes, how many were read, the error's number -/
def opened (b : List UInt8) : List UInt8 × Nat × Nat :=
  if b.length < 6 then ([], 0, 8)
  else if b.length - 6 < le (b.take 2) then ([], 0, 8)
  else if (crc ((b.drop 6).take (le (b.take 2)))).toNat ≠ le ((b.drop 2).take 4) then ([], 0, 10)
  else ((b.drop 6).take (le (b.take 2)), 6 + le (b.take 2), 0)

theorem le_inj : ∀ (a b : List UInt8), a.length = b.length → le a = le b → a = b
  | [], [], _, _ => rfl
  | x :: a, y :: b, hl, h => by
    simp only [le, List.foldr_cons] at h
    have hx := byte_lt x
    have hy := byte_lt y
    have e : x = y := UInt8.toNat_inj.1 (by omega)
    have hr : le a = le b := by unfold le; omega
    rw [e, le_inj a b (by simpa using hl) hr]
  | [], _ :: _, hl, _ => by simp at hl
  | _ :: _, [], hl, _ => by simp at hl

theorem le_head2 (n : Nat) (h : n ≤ 65535) : le [u8n n, u8n (n / 256)] = n := by
  simp only [le, List.foldr_cons, List.foldr_nil, u8n_toNat]; omega
theorem le_head4 (c : Nat) (h : c < 4294967296) : le [u8n c, u8n (c / 256), u8n (c / 65536), u8n (c / 16777216)] = c := by
  simp only [le, List.foldr_cons, List.foldr_nil, u8n_toNat]; omega

theorem sealed_take2 (l m : List UInt8) : (sealed l ++ m).take 2 = [u8n l.length, u8n (l.length / 256)] := rfl
theorem sealed_mid4 (l m : List UInt8) : ((sealed l ++ m).drop 2).take 4 = [u8n (crc l).toNat, u8n ((crc l).toNat / 256), u8n ((crc l).toNat / 65536), u8n ((crc l).toNat / 16777216)] := rfl
theorem sealed_drop6 (l m : List UInt8) : (sealed l ++ m).drop 6 = l ++ m := rfl

/-- what was sealed is opened as it was, whatever stands behind it -/
theorem opened_sealed (l m : List UInt8) (hl : l.length ≤ 65535) : opened (sealed l ++ m) = (l, 6 + l.length, 0) := by
  unfold opened
  rw [sealed_take2, le_head2 _ hl, sealed_mid4, le_head4 _ (crc l).isLt, sealed_drop6]
  have h1 : (sealed l ++ m).length = l.length + 6 + m.length := by rw [List.length_append, length_sealed]
  rw [if_neg (by omega), if_neg (by omega), List.take_left, if_neg (by omega)]
theorem opened_sealed' (l : List UInt8) (hl : l.length ≤ 65535) : opened (sealed l) = (l, 6 + l.length, 0) := by
  have := opened_sealed l [] hl
  rwa [List.append_nil] at this

/-- a front of what was sealed is cut -/
theorem opened_cut (l : List UInt8) (k : Nat) (hl : l.length ≤ 65535) (hk : k < l.length + 6) : opened ((sealed l).take k) = ([], 0, 8) := by
  have h1 : ((sealed l).take k).length = k := by rw [List.length_take, length_sealed]; omega
  unfold opened
  rw [h1]
  by_cases h6 : k < 6
  · rw [if_pos h6]
  · rw [if_neg h6]
    have h2 : ((sealed l).take k).take 2 = [u8n l.length, u8n (l.length / 256)] := by
      rw [List.take_take, Nat.min_eq_left (by omega)]; rfl
    rw [h2, le_head2 _ hl, if_pos (by omega)]

/-- a bit that is turned behind the length is found -/
theorem opened_turned (l : List UInt8) (i : Nat) (z y : UInt8) (hl : l.length ≤ 65535) (hi : i < l.length + 4) (hz : (sealed l)[2 + i]? = some z) (hy : z ≠ y) :
    opened ((sealed l).set (2 + i) y) = ([], 0, 10) := by
  have h1 : ((sealed l).set (2 + i) y).length = l.length + 6 := by rw [List.length_set, length_sealed]
  have h2 : ((sealed l).set (2 + i) y).take 2 = [u8n l.length, u8n (l.length / 256)] := by
    rw [List.take_set, List.set_eq_of_length_le (by rw [List.length_take]; omega)]; rfl
  unfold opened
  rw [h1, h2, le_head2 _ hl, if_neg (by omega), if_neg (by omega)]
  have hd : ((sealed l).set (2 + i) y).drop 2 = ((sealed l).drop 2).set i y := by
    rw [List.drop_set, if_neg (by omega), Nat.add_sub_cancel_left]
  by_cases h4 : i < 4
  · have e1 : (((sealed l).set (2 + i) y).drop 6).take l.length = l := by
      rw [List.drop_set_of_lt (by omega)]
      show l.take l.length = l
      exact List.take_length
    have e2 : (((sealed l).set (2 + i) y).drop 2).take 4 = (((sealed l).drop 2).take 4).set i y := by rw [hd, List.take_set]
    rw [e1, e2, if_pos]
    intro e
    have hc : (crc l).toNat = le (((sealed l).drop 2).take 4) := (le_head4 _ (crc l).isLt).symm
    rw [hc] at e
    have h3 := le_inj _ _ (by simp) e
    have h4' := congrArg (fun q => q[i]?) h3
    simp only [List.getElem?_take, if_pos h4, List.getElem?_drop, hz] at h4'
    rw [List.getElem?_set_self] at h4'
    · injection h4' with h4'; exact hy h4'
    · rw [List.length_take, List.length_drop, length_sealed]; omega
  · have e1 : (((sealed l).set (2 + i) y).drop 6).take l.length = l.set (i - 4) y := by
      rw [List.drop_set, if_neg (by omega), show 2 + i - 6 = i - 4 by omega]
      show (l.set (i - 4) y).take l.length = _
      rw [← @List.length_set _ l (i - 4) y]
      exact List.take_length
    have e2 : (((sealed l).set (2 + i) y).drop 2).take 4 = ((sealed l).drop 2).take 4 := by
      rw [hd, List.take_set, List.set_eq_of_length_le (by rw [List.length_take]; omega)]
    have hz' : l[i - 4]? = some z := by
      rw [← hz]
      unfold sealed
      rw [List.getElem?_append_right (by rw [length_sealHead]; omega), length_sealHead]
      congr 1
      omega
    rw [e1, e2, if_pos]
    intro e
    have hc : (crc l).toNat = le (((sealed l).drop 2).take 4) := (le_head4 _ (crc l).isLt).symm
    rw [← hc] at e
    exact crc_set l (i - 4) z y hz' hy (BitVec.eq_of_toNat_eq e)
end Go.Proofs.Ytfhlnadhcalkkaa
namespace Go.Proofs.Ytfhlnadhcalkkaa
open Go.RowKit
def frameTail (f : Frm) : List UInt8 := if f.kind = 1 then le8 f.size ++ f.sum else if f.kind = 2 then le8 f.at_ ++ textBytes f.data else []
def frameBody (f : Frm) : List UInt8 := (le8 f.kind ++ le8 f.id) ++ frameTail f
def frameBytes (f : Frm) : List UInt8 := sealed (frameBody f)
theorem frameTail_len (f : Frm) (hs : f.sum.length = 32) (hd : f.data.length ≤ 60000) : (frameTail f).length ≤ 60010 := by
  unfold frameTail
  split
  · simp [length_le8, hs]
  · split
    · rw [List.length_append, length_le8, length_textBytes, length_txt]; omega
    · simp
theorem frameBody_len (f : Frm) (hs : f.sum.length = 32) (hd : f.data.length ≤ 60000) : (frameBody f).length ≤ 60026 := by
  have := frameTail_len f hs hd
  unfold frameBody
  rw [List.length_append, List.length_append, length_le8, length_le8]
  omega

/-! ### reading -/
abbrev HSt := List UInt8 × List UInt8 × Int
def hashStep (s : HSt) : HSt := (s.1 ++ [(taken s.2.1 s.2.2 1).1.headD 0], (taken s.2.1 s.2.2 1).2)
def hashN : Nat → HSt → HSt
  | 0, s => s
  | k + 1, s => hashStep (hashN k s)
theorem hashN_len (k : Nat) (l : List UInt8) (e : Int) : (hashN k ([], l, e)).1.length = k := by
  induction k with
  | zero => rfl
  | succ k ih => simp [hashN, hashStep, ih]
theorem hashN_back (h m : List UInt8) : ∀ k, k ≤ h.length → hashN k ([], h ++ m, 0) = (h.take k, h.drop k ++ m, 0) := by
  intro k
  induction k with
  | zero => intro _; rfl
  | succ k ih =>
    intro hk
    have hk' : k < h.length := by omega
    rw [hashN, ih (by omega)]
    have e1 : h.drop k ++ m = [h[k]] ++ (h.drop (k + 1) ++ m) := by rw [List.drop_eq_getElem_cons hk']; rfl
    unfold hashStep
    simp only
    rw [e1, taken_ok _ _ 1 rfl, List.take_succ_eq_append_getElem hk']
    rfl
def finF (f : Frm) (e : Int) : Frm × Int := if e = 0 ∧ ¬ 64 < f.data.length then (f, 0) else (zeroFrm, if e = 0 then 5 else e)
def kindE (k e : Int) : Int := if e = 0 then (if k < 1 ∨ 5 < k then 3 else 0) else e
def parseY (k id : Int) (l : List UInt8) (e : Int) : Frm × Int :=
  if k = 1 then finF ⟨k, id, tkN (taken l e 8), 0, (hashN 32 ([], (taken l e 8).2)).1, []⟩ (ended (hashN 32 ([], (taken l e 8).2)).2.1 (hashN 32 ([], (taken l e 8).2)).2.2)
  else if k = 2 then finF ⟨k, id, 0, tkN (taken l e 8), z32, (textOf (taken l e 8).2.1 (taken l e 8).2.2).1⟩ (ended (textOf (taken l e 8).2.1 (taken l e 8).2.2).2.1 (textOf (taken l e 8).2.1 (taken l e 8).2.2).2.2)
  else finF ⟨k, id, 0, 0, z32, []⟩ (ended l e)
def parseZ (k : Int) (l : List UInt8) (e : Int) : Frm × Int := parseY k (tkN (taken l e 8)) (taken l e 8).2.1 (taken l e 8).2.2
def parseX (x : List UInt8) : Frm × Int := parseZ (tkN (taken x 0 8)) (taken x 0 8).2.1 (kindE (tkN (taken x 0 8)) (taken x 0 8).2.2)
def parseF (b : List UInt8) : Frm × Int :=
  if (opened b).2.2 ≠ 0 then (zeroFrm, (opened b).2.2) else if (opened b).2.1 < b.length then (zeroFrm, 9) else parseX (opened b).1
/-- what a frame's kind names -/
def nf (f : Frm) : Frm := if f.kind = 1 then ⟨f.kind, f.id, f.size, 0, f.sum, []⟩ else if f.kind = 2 then ⟨f.kind, f.id, 0, f.at_, z32, f.data⟩ else ⟨f.kind, f.id, 0, 0, z32, []⟩
theorem tkN_le8 (x : Int) (hx : I64 x) (m : List UInt8) : taken (le8 x ++ m) 0 8 = (le8 x, m, 0) ∧ tkN (le8 x, m, 0) = x := ⟨taken_ok _ _ 8 (length_le8 x), int_back x hx⟩
theorem parseX_body (f : Frm) (hk : 1 ≤ f.kind ∧ f.kind ≤ 5) (hid : I64 f.id) (hsz : I64 f.size) (hat : I64 f.at_) (hs : f.sum.length = 32) (hd : f.data.length ≤ 60000) : parseX (frameBody f) = finF (nf f) 0 := by
  have hK : I64 f.kind := by unfold I64; omega
  unfold parseX frameBody
  rw [List.append_assoc, (tkN_le8 _ hK _).1, (tkN_le8 _ hK _).2]
  have hE : kindE f.kind 0 = 0 := by unfold kindE; rw [if_pos rfl, if_neg (by omega)]
  simp only
  rw [hE]
  unfold parseZ
  rw [(tkN_le8 _ hid _).1, (tkN_le8 _ hid _).2]
  simp only
  unfold parseY frameTail nf
  by_cases h1 : f.kind = 1
  · rw [if_pos h1, if_pos h1, if_pos h1, (tkN_le8 _ hsz _).1, (tkN_le8 _ hsz _).2]
    simp only
    have hb := hashN_back f.sum [] 32 (by omega)
    rw [List.append_nil, List.take_of_length_le (by omega), List.drop_of_length_le (by omega)] at hb
    rw [hb]
    rfl
  · rw [if_neg h1, if_neg h1, if_neg h1]
    by_cases h2 : f.kind = 2
    · rw [if_pos h2, if_pos h2, if_pos h2, (tkN_le8 _ hat _).1, (tkN_le8 _ hat _).2]
      simp only
      have hb := text_back f.data []
      rw [List.append_nil] at hb
      rw [hb]
      simp only
      rw [show txt f.data = f.data from List.take_of_length_le (by omega)]
      rfl
    · rw [if_neg h2, if_neg h2, if_neg h2]
      rfl
theorem opened_frame (f : Frm) (hs : f.sum.length = 32) (hd : f.data.length ≤ 60000) : opened (frameBytes f) = (frameBody f, (frameBytes f).length, 0) := by
  have := frameBody_len f hs hd
  unfold frameBytes
  rw [opened_sealed' _ (by omega), length_sealed, Nat.add_comm]
theorem parse_written (f : Frm) (hk : 1 ≤ f.kind ∧ f.kind ≤ 5) (hid : I64 f.id) (hsz : I64 f.size) (hat : I64 f.at_) (hs : f.sum.length = 32) (hd : f.data.length ≤ 60000) : parseF (frameBytes f) = finF (nf f) 0 := by
  unfold parseF
  rw [opened_frame f hs hd]
  simp only
  rw [if_neg (by omega), if_neg (by omega)]
  exact parseX_body f hk hid hsz hat hs hd
theorem parse_cut (f : Frm) (hs : f.sum.length = 32) (hd : f.data.length ≤ 60000) (k : Nat) (hk : k < (frameBytes f).length) : parseF ((frameBytes f).take k) = (zeroFrm, 8) := by
  have := frameBody_len f hs hd
  unfold frameBytes at hk ⊢
  rw [length_sealed] at hk
  unfold parseF
  rw [opened_cut _ k (by omega) hk]
  rfl
theorem parse_more (f : Frm) (hs : f.sum.length = 32) (hd : f.data.length ≤ 60000) (m : List UInt8) (hm : m ≠ []) : parseF (frameBytes f ++ m) = (zeroFrm, 9) := by
  have := frameBody_len f hs hd
  have hm' := List.length_pos_iff.2 hm
  unfold parseF frameBytes
  rw [opened_sealed _ m (by omega)]
  simp only
  rw [if_neg (by omega), if_pos (by rw [List.length_append, length_sealed]; omega)]
theorem parse_turned (f : Frm) (hs : f.sum.length = 32) (hd : f.data.length ≤ 60000) (i : Nat) (z y : UInt8) (hi : i + 2 < (frameBytes f).length) (hz : (frameBytes f)[2 + i]? = some z) (hy : z ≠ y) : (parseF ((frameBytes f).set (2 + i) y)).2 = 10 := by
  have := frameBody_len f hs hd
  unfold frameBytes at hi hz ⊢
  rw [length_sealed] at hi
  have ho := opened_turned _ i z y (by omega) (by omega) hz hy
  unfold parseF
  rw [ho]
  rfl
end Go.Proofs.Ytfhlnadhcalkkaa
