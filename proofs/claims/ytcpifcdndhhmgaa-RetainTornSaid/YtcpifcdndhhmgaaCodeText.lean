/- code.Text and the document's: what each returns. -/
import Derived.Test.YtcpifcdndhhmgaaCodeWrite
set_option linter.unusedVariables false
set_option linter.unusedSimpArgs false
namespace Go.Proofs.Ytcpifcdndhhmgaa
open Go.RowKit

theorem strCells_bv (t : List UInt8) : Lib.strCells ⟨t.toArray⟩ = bv t := by
  simp [Lib.strCells, bv]
theorem size_str (t : List UInt8) : (⟨t.toArray⟩ : ByteArray).size = t.length := by simp [ByteArray.size]

/-- append of a string onto a row that was made of v0 -/
theorem ontoS {wr : World} {ops : Array Oper} {rest : List Oper} {o : Oper} {a : Act} {Q : Exit → Act → World → Prop} (hgd : o.guard = none) (s x : Operand)
    (ho : o.op = .call { callee := .builtin .append, args := #[s, x], argTypes := #[27, 9] })
    {w : World} {base : Nat} {v0 v : Value} {n N : Nat} {l r : List UInt8} (hs : a.eval s = v) (h : Onto w wr base 5 v0 n (bv l) v N (bv r))
    (k : List UInt8) (hx : a.eval x = .string ⟨k.toArray⟩) (hb : N + k.length ≤ 70368744177664) (hbase : base ≤ wr.heap.size)
    (hK : ∀ v' w', Onto w w' base 5 v0 n (bv l) v' (N + k.length) (bv (r ++ k)) → wr.heap.size ≤ w'.heap.size → wpList Try.prog ops Q rest (a.put o.dst v') w') : wpList Try.prog ops Q (o :: rest) a wr := by
  obtain ⟨i0, hi0, hz0, hz1, hz2⟩ := info_parts byteInfo
  refine wpList_plain hgd fun K hKK => ?_
  obtain ⟨v', w', hrun, h2, h3, h5⟩ := run_append_K_string (P := Try.prog) wr base 27 9 o.type 5 i0 Try.underlying27 Try.underlying9 hi0 hz0 hz1 hz2 v N (bv r) h.now ⟨k.toArray⟩ (by rw [size_str]; omega) hbase
  rw [size_str] at h2 h5
  rw [strCells_bv] at h2
  unfold Oper.wp execOp
  simp only [ho, resolve, invoke, builtin, Sem.run_bind, Sem.run_pure, Result.andThen_ok, List.map_toArray, List.map_cons, List.map_nil, hs, hx, hrun]
  have := h.step h2 h3 h5
  rw [← bv_append] at this
  exact hKK _ _ (hK v' w' this h3.size)

/-- '[]byte(s)' -/
theorem strBytes {W : World} {ops : Array Oper} {rest : List Oper} {o : Oper} {a : Act} {Q : Exit → Act → World → Prop} (hgd : o.guard = none) (x : Operand) (ho : o.op = .convert 9 27 x)
    (s : List UInt8) (hx : a.eval x = .string ⟨s.toArray⟩) (hs : s.length ≤ 9223372036854775807)
    (hK : ∀ c w', Bs w' (some ⟨W.heap.size, 0, none⟩) s.length s → Below W.heap.size W w' → s.length ≤ c → c ≤ 9223372036854775807 → W.heap.size < w'.heap.size →
      wpList Try.prog ops Q rest (a.put o.dst (.slice (some ⟨W.heap.size, 0, none⟩) s.length c)) w') : wpList Try.prog ops Q (o :: rest) a W := by
  refine wpList_plain hgd fun K hKK => ?_
  have hr := run_bytes_of_string (P := Try.prog) W 9 27 5 ⟨s.toArray⟩ Try.underlying9 Try.underlying27 Try.underlying5
  rw [size_str] at hr
  unfold Oper.wp execOp
  simp only [ho, hx, Sem.run_bind, Sem.run_pure, Result.andThen_ok, hr]
  refine hKK _ _ (hK _ _ ?_ ((Below.refl _ W).drew.alloc (Nat.le_refl _) _) (grownCap_ge W s.length 0 5) ?_ (by simp))
  · refine ⟨by simp [bv], fun _ => ⟨_, _, rfl, fun i u hu => ?_⟩⟩
    rw [Nat.zero_add]
    simp only [bv, List.getElem?_map, Option.map_eq_some_iff] at hu
    obtain ⟨z, hz, rfl⟩ := hu
    obtain ⟨hlt, rfl⟩ := List.getElem?_eq_some_iff.1 hz
    have := bytesRow_at ⟨s.toArray⟩ (grownCap W s.length 0 5) i (by simpa using hlt)
    refine cell_of_block (heap_at_new _ _ rfl) ?_
    simpa using this
  · have := grownCap_le_maxLen W s.length 0 5 (by simp only [maxLen]; omega)
    simpa [maxLen] using this

theorem shr8 (n : Nat) (h : n ≤ 65535) : ((UInt8.ofNat (n / 256)).toNat : Int) = (n : Int) / 256 := by
  rw [UInt8.toNat_ofNat']; omega
theorem low8 (n : Nat) : ((UInt8.ofNat n).toNat : Int) = (n : Int) % 256 := by
  rw [UInt8.toNat_ofNat']; omega

theorem str_cut (s : List UInt8) (k : Nat) : (⟨s.toArray⟩ : ByteArray).extract 0 k = ⟨(s.take k).toArray⟩ := by
  apply ByteArray.ext
  simp [ByteArray.data_extract]
theorem txt_long (s : List UInt8) (h : 65535 < s.length) : (txt s).length = 65535 ∧ textBytes s = [255, 255] ++ txt s := by
  have h1 : (txt s).length = 65535 := by rw [length_txt]; omega
  refine ⟨h1, ?_⟩
  unfold textBytes
  rw [h1]
  rfl
theorem txt_short (s : List UInt8) (h : ¬ 65535 < s.length) : txt s = s := List.take_of_length_le (by omega)

set_option maxRecDepth 100000 in
theorem refText_any (v0 : Value) (n : Nat) (l : List UInt8) (s : List UInt8) (w : World) (base : Nat) (hown : w.ownsRow base 5 1 v0 n (bv l)) (hbase : base ≤ w.heap.size) (hn : n ≤ 1099511627776) (hs : s.length ≤ 1099511627776) :
    Calls Try.prog 68 #[v0, .string ⟨s.toArray⟩] w fun e w' => ∃ v, e = .returned v ∧ Onto w w' base 5 v0 n (bv l) v (n + (textBytes s).length) (bv (l ++ textBytes s)) := by
  have hz := size_str s
  by_cases h : 65535 < s.length
  · have h' : (65535 : Int) < s.length := by omega
    obtain ⟨t1, t2⟩ := txt_long s h
    have hx : (⟨s.toArray⟩ : ByteArray).extract 0 65535 = ⟨(txt s).toArray⟩ := str_cut s 65535
    have hT := size_str (txt s)
    rw [t1] at hT
    rw [t2]
    generalize txt s = T at t1 t2 hx hT
    have Ht := Lib.hid t1
    clear t1 t2
    go_enter Try.func68, Try.ntmps68
    go_wp2_with (first
      | (at_builtin; refine ontoB rfl (.tmp 10) (.tmp 18) rfl rfl ((Onto.start hown).below (.alloc (.refl _ _) (Nat.le_refl _) _)) _ _ _ [255, 255] rfl (Bs.lit _ rfl [255, 255] rfl rfl) (by omega) (by simp; omega) ?_; intro v2 w2 h2 hs2; have hs3 : w.heap.size ≤ w2.heap.size := Nat.le_trans (by simp) hs2)
      | (at_builtin; refine ontoS rfl (.tmp 19) (.tmp 20) rfl rfl h2 T rfl (by have := Ht.out; omega) (by omega) ?_; intro v3 w3 h3 hs4))
    go_ret
    refine ⟨_, rfl, ?_⟩
    have e : n + 2 + T.length = n + (T.length + 1 + 1) := by omega
    rw [List.append_assoc, e] at h3
    exact h3
  · have h' : ¬ (65535 : Int) < s.length := by omega
    have e0 := (low8 s.length).symm
    have e1 := (shr8 s.length (by omega)).symm
    have ht : textBytes s = [UInt8.ofNat s.length, UInt8.ofNat (s.length / 256)] ++ s := by unfold textBytes; rw [txt_short s h]
    rw [ht]
    clear ht
    generalize UInt8.ofNat s.length = b0 at e0
    generalize UInt8.ofNat (s.length / 256) = b1 at e1
    have hb1 := byte_lt b1
    have hb2 : ((b1.toNat : Nat) : Int) < 256 := by omega
    go_enter Try.func68, Try.ntmps68
    go_wp2_with (first
      | (at_builtin; refine ontoB rfl (.tmp 10) (.tmp 18) rfl rfl ((Onto.start hown).below (.alloc (.refl _ _) (Nat.le_refl _) _)) _ _ _ [b0, b1] rfl (Bs.lit _ rfl [b0, b1] rfl rfl) (by omega) (by simp; omega) ?_; intro v2 w2 h2 hs2; have hs3 : w.heap.size ≤ w2.heap.size := Nat.le_trans (by simp) hs2)
      | (at_builtin; refine ontoS rfl (.tmp 19) (.tmp 20) rfl rfl h2 s rfl (by omega) (by omega) ?_; intro v3 w3 h3 hs4))
    go_ret
    refine ⟨_, rfl, ?_⟩
    have e : n + 2 + s.length = n + (s.length + 1 + 1) := by omega
    rw [List.append_assoc, e] at h3
    exact h3

theorem codeText_join (A : Option Addr) (n c : Nat) (l T : List UInt8) (b0 b1 : UInt8) (cT : Nat) (w w1 : World) (B : Nat) (hB : B = w.heap.size) (h1 : Below (w.heap.size + 1) (w.alloc (.cells #[.int .u8 (b0.toNat : Int), .int .u8 (b1.toNat : Int)] 5)) w1) (hA : Bs w A n l) (hn : n ≤ 1099511627) (hc : n ≤ c) (hc2 : c ≤ 9223372036854775807)
    (hT : Bs w1 (some ⟨B + 1, 0, none⟩) T.length T) (hcT : T.length ≤ cT) (hcT2 : cT ≤ 9223372036854775807) (hTl : T.length ≤ 65535) {Q : Ending → World → Prop}
    (h : ∀ v w', w'.ownsRow w.heap.size 5 1 v (n + 2 + T.length) (bv (l ++ ([b0, b1] ++ T))) → Below w.heap.size w w' → Q (.returned v) w') :
    Calls Try.prog 62 #[.slice (some ⟨w1.heap.size, 0, none⟩) 3 3] (w1.alloc (.cells #[.slice A n c, .slice (some ⟨B, 0, none⟩) 2 2, .slice (some ⟨B + 1, 0, none⟩) T.length cT] 27)) Q := by
  subst hB
  have hl := hA.len
  have hw0 : Below w.heap.size w w1 := ((Below.refl _ w).alloc (Nat.le_refl _) _).trans (h1.mono (by omega))
  have hk : Keeps (w.alloc (.cells #[.int .u8 (b0.toNat : Int), .int .u8 (b1.toNat : Int)] 5)) w1 := Keeps.of_below (by simpa using h1)
  refine Calls.mono (concat_any _ _ _ [l, [b0, b1], T] _ (Ps.lit3 _ rfl ((hA.alloc _).keep hk) hc hc2 ((Bs.lit _ rfl [b0, b1] rfl rfl).keep hk) (by omega) (by omega) hT hcT hcT2) (by omega) (by simp; omega)) ?_
  rintro e w2 ⟨v2, rfl, hown, hb⟩
  have e2 : [l, [b0, b1], T].flatten = l ++ ([b0, b1] ++ T) := by simp
  have e3 : [l, [b0, b1], T].flatten.length = n + 2 + T.length := by simp [hl]; omega
  rw [e3, e2] at hown
  have hs := hw0.size
  exact h _ _ (ownsRow_base hown (by simp; omega)) (below_then (hw0.alloc hs _) hb (by simp; omega))

set_option maxRecDepth 100000 in
theorem codeText_any (A : Option Addr) (n c : Nat) (l : List UInt8) (s : List UInt8) (w : World) (hA : Bs w A n l) (hn : n ≤ 1099511627) (hc : n ≤ c) (hc2 : c ≤ 9223372036854775807) (hs : s.length ≤ 1099511627776) :
    Calls Try.prog 42 #[.slice A n c, .string ⟨s.toArray⟩] w fun e w' => ∃ v, e = .returned v ∧ w'.ownsRow w.heap.size 5 1 v (n + (textBytes s).length) (bv (l ++ textBytes s)) ∧ Below w.heap.size w w' := by
  have hz := size_str s
  by_cases h : 65535 < s.length
  · have h' : (65535 : Int) < s.length := by omega
    have hmin : min (s.length : Int) 65535 = 65535 := by omega
    obtain ⟨t1, t2⟩ := txt_long s h
    have hx : (⟨s.toArray⟩ : ByteArray).extract 0 65535 = ⟨(txt s).toArray⟩ := str_cut s 65535
    have hT := size_str (txt s)
    rw [t1] at hT
    rw [t2]
    generalize txt s = T at t1 t2 hx hT
    have Ht := Lib.hid t1
    clear t1 t2
    go_enter Try.func42, Try.ntmps42
    go_wp2_with (refine strBytes rfl (.tmp 19) rfl T rfl (by have := Ht.out; omega) ?_; intro cT w1 hB1 hb1 hc1 hc3 hs1)
    refine codeText_join A n c l T 255 255 cT w w1 _ rfl (by simpa using hb1) hA hn hc hc2 (by simpa using hB1) hc1 hc3 (by have := Ht.out; omega) ?_
    intro v2 w2 hown hb
    go_wp2
    go_ret
    have e : n + 2 + T.length = n + ([255, 255] ++ T).length := by simp; omega
    rw [e] at hown
    exact ⟨_, rfl, hown, hb⟩
  · have h' : ¬ (65535 : Int) < s.length := by omega
    have hmin : min (s.length : Int) 65535 = s.length := by omega
    have e0 := (low8 s.length).symm
    have e1 := (shr8 s.length (by omega)).symm
    have ht : textBytes s = [UInt8.ofNat s.length, UInt8.ofNat (s.length / 256)] ++ s := by unfold textBytes; rw [txt_short s h]
    rw [ht]
    clear ht
    generalize UInt8.ofNat s.length = b0 at e0
    generalize UInt8.ofNat (s.length / 256) = b1 at e1
    have hb1 := byte_lt b1
    have hb2 : ((b1.toNat : Nat) : Int) < 256 := by omega
    have hx : (⟨s.toArray⟩ : ByteArray).extract 0 s.length = ⟨s.toArray⟩ := by rw [str_cut]; simp
    go_enter Try.func42, Try.ntmps42
    go_wp2_with (refine strBytes rfl (.tmp 19) rfl s rfl (by omega) ?_; intro cT w1 hB1 hb1' hc1 hc3 hs1)
    refine codeText_join A n c l s b0 b1 cT w w1 _ rfl (by simpa using hb1') hA hn hc hc2 (by simpa using hB1) hc1 hc3 (by omega) ?_
    intro v2 w2 hown hb
    go_wp2
    go_ret
    have e : n + 2 + s.length = n + ([b0, b1] ++ s).length := by simp; omega
    rw [e] at hown
    exact ⟨_, rfl, hown, hb⟩
end Go.Proofs.Ytcpifcdndhhmgaa
