/- Frames, plain: how they are written, how they are read. -/
import Derived.Test.YtonjpjiphcbemaaSesMem
import Derived.Test.YtonjpjiphcbemaaCodeBackPlain
import Derived.Test.YtonjpjiphcbemaaSealPlain
namespace Go.Proofs.Ytonjpjiphcbemaa
open Go.RowKit
def frameTail (f : Frm) : List UInt8 := if f.kind = 1 then le8 f.size ++ f.sum else if f.kind = 2 then le8 f.at_ ++ textBytes f.data else []
def frameBody (f : Frm) : List UInt8 := (le8 f.kind ++ le8 f.id) ++ frameTail f
def frameBytes (f : Frm) : List UInt8 := sealed (frameBody f)
theorem frameTail_len (f : Frm) (hs : f.sum.length = 32) (hd : f.data.length ≤ 60000) : (frameTail f).length ≤ 60010 := by
  unfold frameTail
  split
  · simp [length_le8, hs]
  · split
    · rw [List.length_append, length_le8, length_textBytes, length_txt]; omega
    · simp
theorem frameBody_len (f : Frm) (hs : f.sum.length = 32) (hd : f.data.length ≤ 60000) : (frameBody f).length ≤ 60026 := by
  have := frameTail_len f hs hd
  unfold frameBody
  rw [List.length_append, List.length_append, length_le8, length_le8]
  omega

/-! ### reading -/
abbrev HSt := List UInt8 × List UInt8 × Int
def hashStep (s : HSt) : HSt := (s.1 ++ [(taken s.2.1 s.2.2 1).1.headD 0], (taken s.2.1 s.2.2 1).2)
def hashN : Nat → HSt → HSt
  | 0, s => s
  | k + 1, s => hashStep (hashN k s)
theorem hashN_len (k : Nat) (l : List UInt8) (e : Int) : (hashN k ([], l, e)).1.length = k := by
  induction k with
  | zero => rfl
  | succ k ih => simp [hashN, hashStep, ih]
theorem hashN_back (h m : List UInt8) : ∀ k, k ≤ h.length → hashN k ([], h ++ m, 0) = (h.take k, h.drop k ++ m, 0) := by
  intro k
  induction k with
  | zero => intro _; rfl
  | succ k ih =>
    intro hk
    have hk' : k < h.length := by omega
    rw [hashN, ih (by omega)]
    have e1 : h.drop k ++ m = [h[k]] ++ (h.drop (k + 1) ++ m) := by rw [List.drop_eq_getElem_cons hk']; rfl
    unfold hashStep
    simp only
    rw [e1, taken_ok _ _ 1 rfl, List.take_succ_eq_append_getElem hk']
    rfl
def finF (f : Frm) (e : Int) : Frm × Int := if e = 0 ∧ ¬ 64 < f.data.length then (f, 0) else (zeroFrm, if e = 0 then 5 else e)
def kindE (k e : Int) : Int := if e = 0 then (if k < 1 ∨ 5 < k then 3 else 0) else e
def parseY (k id : Int) (l : List UInt8) (e : Int) : Frm × Int :=
  if k = 1 then finF ⟨k, id, tkN (taken l e 8), 0, (hashN 32 ([], (taken l e 8).2)).1, []⟩ (ended (hashN 32 ([], (taken l e 8).2)).2.1 (hashN 32 ([], (taken l e 8).2)).2.2)
  else if k = 2 then finF ⟨k, id, 0, tkN (taken l e 8), z32, (textOf (taken l e 8).2.1 (taken l e 8).2.2).1⟩ (ended (textOf (taken l e 8).2.1 (taken l e 8).2.2).2.1 (textOf (taken l e 8).2.1 (taken l e 8).2.2).2.2)
  else finF ⟨k, id, 0, 0, z32, []⟩ (ended l e)
def parseZ (k : Int) (l : List UInt8) (e : Int) : Frm × Int := parseY k (tkN (taken l e 8)) (taken l e 8).2.1 (taken l e 8).2.2
def parseX (x : List UInt8) : Frm × Int := parseZ (tkN (taken x 0 8)) (taken x 0 8).2.1 (kindE (tkN (taken x 0 8)) (taken x 0 8).2.2)
def parseF (b : List UInt8) : Frm × Int :=
  if (opened b).2.2 ≠ 0 then (zeroFrm, (opened b).2.2) else if (opened b).2.1 < b.length then (zeroFrm, 9) else parseX (opened b).1
/-- what a frame's kind names -/
def nf (f : Frm) : Frm := if f.kind = 1 then ⟨f.kind, f.id, f.size, 0, f.sum, []⟩ else if f.kind = 2 then ⟨f.kind, f.id, 0, f.at_, z32, f.data⟩ else ⟨f.kind, f.id, 0, 0, z32, []⟩
theorem tkN_le8 (x : Int) (hx : I64 x) (m : List UInt8) : taken (le8 x ++ m) 0 8 = (le8 x, m, 0) ∧ tkN (le8 x, m, 0) = x := ⟨taken_ok _ _ 8 (length_le8 x), int_back x hx⟩
theorem parseX_body (f : Frm) (hk : 1 ≤ f.kind ∧ f.kind ≤ 5) (hid : I64 f.id) (hsz : I64 f.size) (hat : I64 f.at_) (hs : f.sum.length = 32) (hd : f.data.length ≤ 60000) : parseX (frameBody f) = finF (nf f) 0 := by
  have hK : I64 f.kind := by unfold I64; omega
  unfold parseX frameBody
  rw [List.append_assoc, (tkN_le8 _ hK _).1, (tkN_le8 _ hK _).2]
  have hE : kindE f.kind 0 = 0 := by unfold kindE; rw [if_pos rfl, if_neg (by omega)]
  simp only
  rw [hE]
  unfold parseZ
  rw [(tkN_le8 _ hid _).1, (tkN_le8 _ hid _).2]
  simp only
  unfold parseY frameTail nf
  by_cases h1 : f.kind = 1
  · rw [if_pos h1, if_pos h1, if_pos h1, (tkN_le8 _ hsz _).1, (tkN_le8 _ hsz _).2]
    simp only
    have hb := hashN_back f.sum [] 32 (by omega)
    rw [List.append_nil, List.take_of_length_le (by omega), List.drop_of_length_le (by omega)] at hb
    rw [hb]
    rfl
  · rw [if_neg h1, if_neg h1, if_neg h1]
    by_cases h2 : f.kind = 2
    · rw [if_pos h2, if_pos h2, if_pos h2, (tkN_le8 _ hat _).1, (tkN_le8 _ hat _).2]
      simp only
      have hb := text_back f.data []
      rw [List.append_nil] at hb
      rw [hb]
      simp only
      rw [show txt f.data = f.data from List.take_of_length_le (by omega)]
      rfl
    · rw [if_neg h2, if_neg h2, if_neg h2]
      rfl
theorem opened_frame (f : Frm) (hs : f.sum.length = 32) (hd : f.data.length ≤ 60000) : opened (frameBytes f) = (frameBody f, (frameBytes f).length, 0) := by
  have := frameBody_len f hs hd
  unfold frameBytes
  rw [opened_sealed' _ (by omega), length_sealed, Nat.add_comm]
theorem parse_written (f : Frm) (hk : 1 ≤ f.kind ∧ f.kind ≤ 5) (hid : I64 f.id) (hsz : I64 f.size) (hat : I64 f.at_) (hs : f.sum.length = 32) (hd : f.data.length ≤ 60000) : parseF (frameBytes f) = finF (nf f) 0 := by
  unfold parseF
  rw [opened_frame f hs hd]
  simp only
  rw [if_neg (by omega), if_neg (by omega)]
  exact parseX_body f hk hid hsz hat hs hd
theorem parse_cut (f : Frm) (hs : f.sum.length = 32) (hd : f.data.length ≤ 60000) (k : Nat) (hk : k < (frameBytes f).length) : parseF ((frameBytes f).take k) = (zeroFrm, 8) := by
  have := frameBody_len f hs hd
  unfold frameBytes at hk ⊢
  rw [length_sealed] at hk
  unfold parseF
  rw [opened_cut _ k (by omega) hk]
  rfl
theorem parse_more (f : Frm) (hs : f.sum.length = 32) (hd : f.data.length ≤ 60000) (m : List UInt8) (hm : m ≠ []) : parseF (frameBytes f ++ m) = (zeroFrm, 9) := by
  have := frameBody_len f hs hd
  have hm' := List.length_pos_iff.2 hm
  unfold parseF frameBytes
  rw [opened_sealed _ m (by omega)]
  simp only
  rw [if_neg (by omega), if_pos (by rw [List.length_append, length_sealed]; omega)]
theorem parse_turned (f : Frm) (hs : f.sum.length = 32) (hd : f.data.length ≤ 60000) (i : Nat) (z y : UInt8) (hi : i + 2 < (frameBytes f).length) (hz : (frameBytes f)[2 + i]? = some z) (hy : z ≠ y) : (parseF ((frameBytes f).set (2 + i) y)).2 = 10 := by
  have := frameBody_len f hs hd
  unfold frameBytes at hi hz ⊢
  rw [length_sealed] at hi
  have ho := opened_turned _ i z y (by omega) (by omega) hz hy
  unfold parseF
  rw [ho]
  rfl
end Go.Proofs.Ytonjpjiphcbemaa
