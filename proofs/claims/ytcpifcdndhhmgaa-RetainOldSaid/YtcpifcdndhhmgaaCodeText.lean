/- Numbers and texts as bytes: plain. code.Int, code.Byte, code.Text and the document's: what each returns. code.Text and the document's: what each returns. -/
import Derived.Test.YtcpifcdndhhmgaaLib
import Derived.Test.YtcpifcdndhhmgaaChecked
import Derived.Test.YtcpifcdndhhmgaaAppendK
import Derived.Lib.ConvBytes
set_option linter.unusedVariables false
set_option linter.unusedSimpArgs false
namespace Go.Proofs.Ytcpifcdndhhmgaa

/-- the k-th byte of a number, the lowest first -/
def i64byte (x : Int) (k : Nat) : UInt8 := UInt8.ofNat ((x % 18446744073709551616).toNat / 256 ^ k)
theorem i64byte_val (x : Int) (k : Nat) : ((i64byte x k).toNat : Int) = x % 18446744073709551616 / 2 ^ (8 * k) % 256 := by
  unfold i64byte
  rw [UInt8.toNat_ofNat']
  have h0 : 0 ≤ x % 18446744073709551616 := Int.emod_nonneg _ (by decide)
  generalize x % 18446744073709551616 = y at h0
  obtain ⟨n, rfl⟩ := Int.eq_ofNat_of_zero_le h0
  have h2 : (2 : Int) ^ (8 * k) = ((256 ^ k : Nat) : Int) := by
    rw [Int.pow_mul, Int.natCast_pow]; rfl
  rw [h2, Int.toNat_natCast, ← Int.natCast_ediv]
  generalize n / 256 ^ k = q
  omega
def le8 (x : Int) : List UInt8 := (List.range 8).map (i64byte x)
theorem length_le8 (x : Int) : (le8 x).length = 8 := by simp [le8]
theorem le8_next (x : Int) (k : Nat) (hk : k < 8) : (le8 x).take (k + 1) = (le8 x).take k ++ [i64byte x k] := by
  rw [List.take_succ_eq_append_getElem (by rw [length_le8]; exact hk)]
  simp [le8]
theorem le8_all (x : Int) : (le8 x).take 8 = le8 x := List.take_of_length_le (by rw [length_le8]; exact Nat.le_refl _)
/-- the lowest byte -/
theorem i64byte0 (x : Int) : ((i64byte x 0).toNat : Int) = x % 256 := by
  rw [i64byte_val]; simp

/-- a text's bytes, at most 65535 -/
def txt (s : List UInt8) : List UInt8 := s.take 65535
def textBytes (s : List UInt8) : List UInt8 := [UInt8.ofNat (txt s).length, UInt8.ofNat ((txt s).length / 256)] ++ txt s
theorem length_txt (s : List UInt8) : (txt s).length = min 65535 s.length := by simp [txt]
theorem length_textBytes (s : List UInt8) : (textBytes s).length = (txt s).length + 2 := by simp [textBytes]

/-- the number of n bytes, the lowest first -/
def leN (l : List UInt8) : Nat := l.foldr (fun x r => x.toNat + 256 * r) 0
theorem leN_append (a b : List UInt8) : leN (a ++ b) = leN a + 256 ^ a.length * leN b := by
  induction a with
  | nil => simp [leN]
  | cons x a ih =>
    have h1 : leN (x :: a ++ b) = x.toNat + 256 * leN (a ++ b) := rfl
    have h2 : leN (x :: a) = x.toNat + 256 * leN a := rfl
    rw [h1, h2, ih, List.length_cons, Nat.pow_succ, Nat.mul_add, ← Nat.mul_assoc, Nat.mul_comm 256 (256 ^ a.length), Nat.add_assoc]
theorem leN_lt (l : List UInt8) : leN l < 256 ^ l.length := by
  induction l with
  | nil => simp [leN]
  | cons x l ih =>
    have h2 : leN (x :: l) = x.toNat + 256 * leN l := rfl
    have := byte_lt x
    rw [h2, List.length_cons, Nat.pow_succ]
    omega
theorem leN_one (x : UInt8) : leN [x] = x.toNat := by simp [leN]
theorem u64_or_join (x y k : Nat) (hx : x < 2 ^ k) (hy : y * 2 ^ k + x < 18446744073709551616) : bits .or .u64 (x : Int) ((y * 2 ^ k : Nat) : Int) = ((x + y * 2 ^ k : Nat) : Int) := by
  have h : x ||| y * 2 ^ k = x + y * 2 ^ k := by
    rw [Nat.or_comm, nat_join k (y * 2 ^ k) x (Nat.mul_mod_left _ _) hx, Nat.add_comm]
  have o : ∀ a : Nat, a < 18446744073709551616 → (BitVec.ofInt 64 (a : Int)).toNat = a := fun a ha => by
    rw [BitVec.ofInt_natCast, BitVec.toNat_ofNat]; exact Nat.mod_eq_of_lt (by omega)
  show IntKind.u64.wrap ((BitVec.ofInt 64 (x : Int) ||| BitVec.ofInt 64 ((y * 2 ^ k : Nat) : Int)).toNat : Int) = _
  rw [BitVec.toNat_or, o x (by omega), o (y * 2 ^ k) (by omega), h, IntWalk.u64_in _ (by omega)]
end Go.Proofs.Ytcpifcdndhhmgaa
set_option linter.unusedVariables false
set_option linter.unusedSimpArgs false
namespace Go.Proofs.Ytcpifcdndhhmgaa
open Go.RowKit

theorem codeByte_any (A : Option Addr) (n c : Nat) (l : List UInt8) (x : Int) (w : World) (hA : Bs w A n l) (hn : n ≤ 1099511627775) (hc : n ≤ c) (hc2 : c ≤ 9223372036854775807) :
    Calls Try.prog 40 #[.slice A n c, .int .i64 x] w fun e w' => ∃ v, e = .returned v ∧ w'.ownsRow w.heap.size 5 1 v (n + 1) (bv (l ++ [i64byte x 0])) ∧ Below w.heap.size w w' := by
  have e1 : x % 256 = ((i64byte x 0).toNat : Int) := (i64byte0 x).symm
  generalize i64byte x 0 = z at e1
  go_enter Try.func40, Try.ntmps40
  go_wp2_with fail
  have hl := hA.len
  refine Calls.mono (concat_any _ _ _ [l, [z]] _ (Ps.lit2 _ (by simp) (hA.alloc _) hc hc2 (Bs.lit _ rfl [z] rfl rfl) (by omega) (by omega)) (by omega) (by simp; omega)) ?_
  rintro e w2 ⟨v2, rfl, hown, hb⟩
  go_wp2
  go_ret
  have e2 : [l, [z]].flatten = l ++ [z] := by simp
  have e3 : [l, [z]].flatten.length = n + 1 := by simp [hl]
  rw [e3, e2] at hown
  exact ⟨_, rfl, ownsRow_base hown (by simp; omega), below_then (((Below.refl _ w).alloc (Nat.le_refl _) _).alloc (by simp) _) hb (by simp; omega)⟩

set_option maxRecDepth 100000 in
theorem codeInt_any (A : Option Addr) (n c : Nat) (l : List UInt8) (x : Int) (w : World) (hA : Bs w A n l) (hn : n ≤ 1099511627776) (hx : -9223372036854775808 ≤ x ∧ x ≤ 9223372036854775807) :
    Calls Try.prog 41 #[.slice A n c, .int .i64 x] w fun e w' => ∃ v, e = .returned v ∧ w'.ownsRow w.heap.size 5 1 v (n + 8) (bv (l ++ le8 x)) ∧ Below w.heap.size w w' := by
  go_enter Try.func41, Try.ntmps41
  go_wp2_with (go_at_call 63; refine Calls.mono (clone_any _ _ _ l _ hA (by omega)) ?_; rintro e w1 ⟨v1, rfl, hown1, hb1⟩)
  go_loopw [5, 6, 9] (fun v _ i wr => ∃ (k : Nat), k ≤ 8 ∧ i = .int .i64 k ∧ wr.ownsRow w.heap.size 5 1 v (n + k) (bv (l ++ (le8 x).take k)) ∧ Below w.heap.size w wr) (fun _ _ i _ => 8 - (intOf i).toNat)
  case atStart => exact ⟨0, by omega, rfl, by simpa using hown1, hb1⟩
  case round =>
    obtain ⟨k, hk, rfl, hown, hbr⟩ := hrel
    by_cases hlt : k < 8
    · have hk8 : (k : Int) < 8 := by omega
      have hk0 : (0 : Int) ≤ k := by omega
      have hbw := hbr.size
      have e1 : IntKind.u64.wrap x / 2 ^ (8 * k) % 256 = ((i64byte x k).toNat : Int) := (i64byte_val x k).symm
      have e2 := le8_next x k hlt
      generalize i64byte x k = z at e1 e2
      have E2 := Lib.hid e2; clear e2
      go_wp2_with (at_builtin; refine appendB _ rfl (.tmp 12) (.tmp 19) rfl w.heap.size _ _ _ rfl (own_below hown (.alloc (.refl _ _) (Nat.le_refl _) _)) _ _ _ [z] rfl (Bs.lit _ rfl [z] rfl rfl) (by omega) (by simp; omega) ?_; intro v2 w2 hown2 hg2 hat2)
      go_roundw
      case rel => exact ⟨k + 1, by omega, by go_num, by rw [E2.out, ← List.append_assoc]; exact hown2, below_append (hbr.alloc hbr.size _) hg2 (own_below hown (.alloc (.refl _ _) (Nat.le_refl _) _)) (by simp; omega)⟩
      case measure => simp [intOf]; omega
    · obtain rfl : k = 8 := by omega
      rw [le8_all] at hown
      obtain ⟨B, c2, rfl, q1, q2, q3, _⟩ := own_slice hown
      go_wp2_with (go_at_call 63; refine Calls.mono (clone_any _ _ _ (l ++ le8 x) _ q3 (by omega)) ?_; rintro e w3 ⟨v3, rfl, hown3, hb3⟩)
      go_ret
      exact ⟨_, rfl, ownsRow_base hown3 hbr.size, below_then hbr hb3 hbr.size⟩
end Go.Proofs.Ytcpifcdndhhmgaa
set_option linter.unusedVariables false
set_option linter.unusedSimpArgs false
namespace Go.Proofs.Ytcpifcdndhhmgaa
open Go.RowKit

theorem size_str (t : List UInt8) : (⟨t.toArray⟩ : ByteArray).size = t.length := by simp [ByteArray.size]

/-- '[]byte(s)' -/
theorem strBytes {W : World} {ops : Array Oper} {rest : List Oper} {o : Oper} {a : Act} {Q : Exit → Act → World → Prop} (hgd : o.guard = none) (x : Operand) (ho : o.op = .convert 9 27 x)
    (s : List UInt8) (hx : a.eval x = .string ⟨s.toArray⟩) (hs : s.length ≤ 9223372036854775807)
    (hK : ∀ c w', Bs w' (some ⟨W.heap.size, 0, none⟩) s.length s → Below W.heap.size W w' → s.length ≤ c → c ≤ 9223372036854775807 → W.heap.size < w'.heap.size →
      wpList Try.prog ops Q rest (a.put o.dst (.slice (some ⟨W.heap.size, 0, none⟩) s.length c)) w') : wpList Try.prog ops Q (o :: rest) a W := by
  refine wpList_plain hgd fun K hKK => ?_
  have hr := run_bytes_of_string (P := Try.prog) W 9 27 5 ⟨s.toArray⟩ Try.underlying9 Try.underlying27 Try.underlying5
  rw [size_str] at hr
  unfold Oper.wp execOp
  simp only [ho, hx, Sem.run_bind, Sem.run_pure, Result.andThen_ok, hr]
  refine hKK _ _ (hK _ _ ?_ ((Below.refl _ W).drew.alloc (Nat.le_refl _) _) (grownCap_ge W s.length 0 5) ?_ (by simp))
  · refine ⟨by simp [bv], fun _ => ⟨_, _, rfl, fun i u hu => ?_⟩⟩
    rw [Nat.zero_add]
    simp only [bv, List.getElem?_map, Option.map_eq_some_iff] at hu
    obtain ⟨z, hz, rfl⟩ := hu
    obtain ⟨hlt, rfl⟩ := List.getElem?_eq_some_iff.1 hz
    have := bytesRow_at ⟨s.toArray⟩ (grownCap W s.length 0 5) i (by simpa using hlt)
    refine cell_of_block (heap_at_new _ _ rfl) ?_
    simpa using this
  · have := grownCap_le_maxLen W s.length 0 5 (by simp only [maxLen]; omega)
    simpa [maxLen] using this

theorem shr8 (n : Nat) (h : n ≤ 65535) : ((UInt8.ofNat (n / 256)).toNat : Int) = (n : Int) / 256 := by
  rw [UInt8.toNat_ofNat']; omega
theorem low8 (n : Nat) : ((UInt8.ofNat n).toNat : Int) = (n : Int) % 256 := by
  rw [UInt8.toNat_ofNat']; omega

theorem str_cut (s : List UInt8) (k : Nat) : (⟨s.toArray⟩ : ByteArray).extract 0 k = ⟨(s.take k).toArray⟩ := by
  apply ByteArray.ext
  simp [ByteArray.data_extract]
theorem txt_long (s : List UInt8) (h : 65535 < s.length) : (txt s).length = 65535 ∧ textBytes s = [255, 255] ++ txt s := by
  have h1 : (txt s).length = 65535 := by rw [length_txt]; omega
  refine ⟨h1, ?_⟩
  unfold textBytes
  rw [h1]
  rfl
theorem txt_short (s : List UInt8) (h : ¬ 65535 < s.length) : txt s = s := List.take_of_length_le (by omega)

theorem codeText_join (A : Option Addr) (n c : Nat) (l T : List UInt8) (b0 b1 : UInt8) (cT : Nat) (w w1 : World) (B : Nat) (hB : B = w.heap.size) (h1 : Below (w.heap.size + 1) (w.alloc (.cells #[.int .u8 (b0.toNat : Int), .int .u8 (b1.toNat : Int)] 5)) w1) (hA : Bs w A n l) (hn : n ≤ 1099511627) (hc : n ≤ c) (hc2 : c ≤ 9223372036854775807)
    (hT : Bs w1 (some ⟨B + 1, 0, none⟩) T.length T) (hcT : T.length ≤ cT) (hcT2 : cT ≤ 9223372036854775807) (hTl : T.length ≤ 65535) {Q : Ending → World → Prop}
    (h : ∀ v w', w'.ownsRow w.heap.size 5 1 v (n + 2 + T.length) (bv (l ++ ([b0, b1] ++ T))) → Below w.heap.size w w' → Q (.returned v) w') :
    Calls Try.prog 62 #[.slice (some ⟨w1.heap.size, 0, none⟩) 3 3] (w1.alloc (.cells #[.slice A n c, .slice (some ⟨B, 0, none⟩) 2 2, .slice (some ⟨B + 1, 0, none⟩) T.length cT] 27)) Q := by
  subst hB
  have hl := hA.len
  have hw0 : Below w.heap.size w w1 := ((Below.refl _ w).alloc (Nat.le_refl _) _).trans (h1.mono (by omega))
  have hk : Keeps (w.alloc (.cells #[.int .u8 (b0.toNat : Int), .int .u8 (b1.toNat : Int)] 5)) w1 := Keeps.of_below (by simpa using h1)
  refine Calls.mono (concat_any _ _ _ [l, [b0, b1], T] _ (Ps.lit3 _ rfl ((hA.alloc _).keep hk) hc hc2 ((Bs.lit _ rfl [b0, b1] rfl rfl).keep hk) (by omega) (by omega) hT hcT hcT2) (by omega) (by simp; omega)) ?_
  rintro e w2 ⟨v2, rfl, hown, hb⟩
  have e2 : [l, [b0, b1], T].flatten = l ++ ([b0, b1] ++ T) := by simp
  have e3 : [l, [b0, b1], T].flatten.length = n + 2 + T.length := by simp [hl]; omega
  rw [e3, e2] at hown
  have hs := hw0.size
  exact h _ _ (ownsRow_base hown (by simp; omega)) (below_then (hw0.alloc hs _) hb (by simp; omega))

set_option maxRecDepth 100000 in
theorem codeText_any (A : Option Addr) (n c : Nat) (l : List UInt8) (s : List UInt8) (w : World) (hA : Bs w A n l) (hn : n ≤ 1099511627) (hc : n ≤ c) (hc2 : c ≤ 9223372036854775807) (hs : s.length ≤ 1099511627776) :
    Calls Try.prog 42 #[.slice A n c, .string ⟨s.toArray⟩] w fun e w' => ∃ v, e = .returned v ∧ w'.ownsRow w.heap.size 5 1 v (n + (textBytes s).length) (bv (l ++ textBytes s)) ∧ Below w.heap.size w w' := by
  have hz := size_str s
  by_cases h : 65535 < s.length
  · have h' : (65535 : Int) < s.length := by omega
    have hmin : min (s.length : Int) 65535 = 65535 := by omega
    obtain ⟨t1, t2⟩ := txt_long s h
    have hx : (⟨s.toArray⟩ : ByteArray).extract 0 65535 = ⟨(txt s).toArray⟩ := str_cut s 65535
    have hT := size_str (txt s)
    rw [t1] at hT
    rw [t2]
    generalize txt s = T at t1 t2 hx hT
    have Ht := Lib.hid t1
    clear t1 t2
    go_enter Try.func42, Try.ntmps42
    go_wp2_with (refine strBytes rfl (.tmp 19) rfl T rfl (by have := Ht.out; omega) ?_; intro cT w1 hB1 hb1 hc1 hc3 hs1)
    refine codeText_join A n c l T 255 255 cT w w1 _ rfl (by simpa using hb1) hA hn hc hc2 (by simpa using hB1) hc1 hc3 (by have := Ht.out; omega) ?_
    intro v2 w2 hown hb
    go_wp2
    go_ret
    have e : n + 2 + T.length = n + ([255, 255] ++ T).length := by simp; omega
    rw [e] at hown
    exact ⟨_, rfl, hown, hb⟩
  · have h' : ¬ (65535 : Int) < s.length := by omega
    have hmin : min (s.length : Int) 65535 = s.length := by omega
    have e0 := (low8 s.length).symm
    have e1 := (shr8 s.length (by omega)).symm
    have ht : textBytes s = [UInt8.ofNat s.length, UInt8.ofNat (s.length / 256)] ++ s := by unfold textBytes; rw [txt_short s h]
    rw [ht]
    clear ht
    generalize UInt8.ofNat s.length = b0 at e0
    generalize UInt8.ofNat (s.length / 256) = b1 at e1
    have hb1 := byte_lt b1
    have hb2 : ((b1.toNat : Nat) : Int) < 256 := by omega
    have hx : (⟨s.toArray⟩ : ByteArray).extract 0 s.length = ⟨s.toArray⟩ := by rw [str_cut]; simp
    go_enter Try.func42, Try.ntmps42
    go_wp2_with (refine strBytes rfl (.tmp 19) rfl s rfl (by omega) ?_; intro cT w1 hB1 hb1' hc1 hc3 hs1)
    refine codeText_join A n c l s b0 b1 cT w w1 _ rfl (by simpa using hb1') hA hn hc hc2 (by simpa using hB1) hc1 hc3 (by omega) ?_
    intro v2 w2 hown hb
    go_wp2
    go_ret
    have e : n + 2 + s.length = n + ([b0, b1] ++ s).length := by simp; omega
    rw [e] at hown
    exact ⟨_, rfl, hown, hb⟩
end Go.Proofs.Ytcpifcdndhhmgaa
