/- What was written is read as it was: plain. Checkpoints, plain: how they are written and read, which one is the newest, what a save does. No program in sight. -/
import Derived.Test.YtcpifcdndhhmgaaReader
import Derived.Test.YtcpifcdndhhmgaaClone
set_option linter.unusedVariables false
set_option linter.unusedSimpArgs false
namespace Go.Proofs.Ytcpifcdndhhmgaa
open Go.RowKit

/-- a number that was taken -/
def tkN (t : List UInt8 × List UInt8 × Int) : Int := wrap64 (leN t.1 : Int)
theorem leN_head (l : List UInt8) (h : l.length ≤ 1) : leN l = (l.headD 0).toNat := by
  match l, h with
  | [], _ => rfl
  | [x], _ => simp [leN]
theorem taken_ok (a m : List UInt8) (k : Nat) (h : a.length = k) : taken (a ++ m) 0 k = (a, m, 0) := by
  unfold taken
  rw [if_neg (by simp; omega), if_neg (by simp), ← h, List.take_left, List.drop_left]
theorem text_back (t m : List UInt8) : textOf (textBytes t ++ m) 0 = (txt t, m, 0) := by
  have hl : (txt t).length ≤ 65535 := by rw [length_txt]; omega
  have h1 : taken (textBytes t ++ m) 0 2 = ([UInt8.ofNat (txt t).length, UInt8.ofNat ((txt t).length / 256)], txt t ++ m, 0) := by
    unfold textBytes
    rw [List.append_assoc]
    exact taken_ok _ _ 2 rfl
  have h2 : leN [UInt8.ofNat (txt t).length, UInt8.ofNat ((txt t).length / 256)] = (txt t).length := by
    have e0 := low8 (txt t).length
    have e1 := shr8 (txt t).length hl
    simp only [leN, List.foldr_cons, List.foldr_nil]
    omega
  unfold textOf
  rw [h1]
  dsimp only
  rw [h2]
  exact taken_ok _ _ _ rfl
theorem leN_le8 (x : Int) : (leN (le8 x) : Int) = x % 18446744073709551616 := by
  have h : ∀ k, k ≤ 8 → (leN ((le8 x).take k) : Int) = x % 18446744073709551616 % 2 ^ (8 * k) := by
    intro k
    induction k with
    | zero => intro _; simp [leN, Int.emod_one]
    | succ k ih =>
      intro hk
      have hkl : ((le8 x).take k).length = k := by rw [List.length_take, length_le8]; omega
      rw [le8_next x k (by omega), leN_append, leN_one, hkl]
      have h1 := ih (by omega)
      have h2 := i64byte_val x k
      have hy : 0 ≤ x % 18446744073709551616 := Int.emod_nonneg _ (by decide)
      generalize x % 18446744073709551616 = y at h1 h2 hy ⊢
      obtain ⟨n, rfl⟩ := Int.eq_ofNat_of_zero_le hy
      have h3 : (2 : Int) ^ (8 * (k + 1)) = 2 ^ (8 * k) * 256 := by
        rw [show 8 * (k + 1) = 8 * k + 8 by omega, Int.pow_add]; rfl
      have h4 : ((256 ^ k : Nat) : Int) = 2 ^ (8 * k) := by rw [Int.pow_mul, Int.natCast_pow]; rfl
      rw [h3, Int.natCast_add, Int.natCast_mul, h1, h2, ← h4]
      generalize 256 ^ k = q
      have h5 := @Nat.mod_mul q 256 n
      have h6 : ((n % (q * 256) : Nat) : Int) = ((n % q + q * (n / q % 256) : Nat) : Int) := by rw [h5]
      simpa using h6.symm
  have := h 8 (Nat.le_refl _)
  rw [le8_all] at this
  rw [this]
  omega
theorem int_back (x : Int) (hx : -9223372036854775808 ≤ x ∧ x ≤ 9223372036854775807) : wrap64 (leN (le8 x) : Int) = x := by
  rw [leN_le8]; unfold wrap64; omega
end Go.Proofs.Ytcpifcdndhhmgaa
set_option linter.unusedVariables false
set_option linter.unusedSimpArgs false
namespace Go.Proofs.Ytcpifcdndhhmgaa
open Go.RowKit

structure KepS where
  path : List UInt8
  kind : Int
  value : Int
theorem KepS.ext' {a b : KepS} (h1 : a.path = b.path) (h2 : a.kind = b.kind) (h3 : a.value = b.value) : a = b := by
  obtain ⟨a1, a2, a3⟩ := a
  obtain ⟨b1, b2, b3⟩ := b
  dsimp only at h1 h2 h3
  rw [h1, h2, h3]
def wrapK (kind n : Int) : Int :=
  if kind = 1 then (if n = 0 then 0 else 1) else if kind = 2 then IntKind.u8.wrap n else if kind = 3 then IntKind.u16.wrap n else if kind = 4 then IntKind.i16.wrap n else if kind = 5 then IntKind.i32.wrap n else if kind = 6 then n else 0
def mayK (k : KepS) : Bool := decide (1 ≤ k.kind) && (decide (k.kind ≤ 6) && decide (wrapK k.kind k.value = k.value))
def kepB (k : KepS) : List UInt8 := (textBytes k.path ++ [i64byte k.kind 0]) ++ le8 k.value
def kepsB (l : List KepS) : List UInt8 := (l.map kepB).flatten
theorem kepsB_cons (k : KepS) (l : List KepS) : kepsB (k :: l) = kepB k ++ kepsB l := by simp [kepsB]
theorem kepsB_snoc (k : KepS) (l : List KepS) : kepsB (l ++ [k]) = kepsB l ++ kepB k := by simp [kepsB]
def bytesK (seq : Int) (l : List KepS) : List UInt8 := (le8 seq ++ [i64byte (l.length : Int) 0]) ++ kepsB l
theorem length_kepB (k : KepS) (h : k.path.length ≤ 65535) : (kepB k).length = k.path.length + 11 := by
  unfold kepB
  rw [List.length_append, List.length_append, length_textBytes, length_txt, length_le8, List.length_singleton]
  omega
theorem length_kepsB : ∀ (l : List KepS) (m : Nat), (∀ k ∈ l, k.path.length ≤ m) → m ≤ 65535 → (kepsB l).length ≤ l.length * (m + 11)
  | [], _, _, _ => by simp [kepsB]
  | k :: l, m, h, hm => by
    have h1 := length_kepsB l m (fun x hx => h x (by simp [hx])) hm
    have h2 := h k (by simp)
    rw [kepsB_cons, List.length_append, length_kepB k (by omega), List.length_cons, Nat.add_mul, Nat.one_mul]
    omega
/-! ### reading -/
abbrev KSt := List KepS × List UInt8 × Int
def pathK (s : KSt) : List UInt8 × List UInt8 × Int := textOf s.2.1 s.2.2
def kindK (s : KSt) : List UInt8 × List UInt8 × Int := taken (pathK s).2.1 (pathK s).2.2 1
def valK (s : KSt) : List UInt8 × List UInt8 × Int := taken (kindK s).2.1 (kindK s).2.2 8
def itemK (s : KSt) : KepS := ⟨(pathK s).1, (((kindK s).1.headD 0).toNat : Int), tkN (valK s)⟩
def stepK (s : KSt) : KSt := (s.1 ++ [itemK s], (valK s).2)
def kepN : Nat → KSt → KSt
  | 0, s => s
  | k + 1, s => stepK (kepN k s)
theorem kepN_len (k : Nat) (l : List UInt8) (e : Int) : (kepN k ([], l, e)).1.length = k := by
  induction k with
  | zero => rfl
  | succ k ih => simp [kepN, stepK, ih]
theorem stepK_bad (s : KSt) (h : s.2.2 ≠ 0) : (stepK s).2 = s.2 := by
  have h1 : pathK s = ([], s.2.1, s.2.2) := textOf_bad s.2.1 h
  have h2 : kindK s = ([], s.2.1, s.2.2) := by unfold kindK; rw [h1]; exact taken_bad s.2.1 1 h
  have h3 : valK s = ([], s.2.1, s.2.2) := by unfold valK; rw [h2]; exact taken_bad s.2.1 8 h
  unfold stepK
  rw [h3]
theorem kepN_stick (s : KSt) (j : Nat) (h : (kepN j s).2.2 ≠ 0) : ∀ d, (kepN (j + d) s).2 = (kepN j s).2
  | 0 => rfl
  | d + 1 => by
    have ih := kepN_stick s j h d
    rw [← Nat.add_assoc]
    show (stepK (kepN (j + d) s)).2 = _
    rw [stepK_bad _ (by rw [ih]; exact h), ih]
def badK (seq : Int) (ks : List KepS) : Bool := decide (seq < 1) || (decide (1073741824 < seq) || ks.any fun k => !mayK k)
def finK (seq : Int) (ks : List KepS) (E : Int) : Int × List KepS × Int := if E ≠ 0 then (0, [], E) else if badK seq ks = true then (0, [], 10) else (seq, ks, 0)
def bodyK (seq : Int) (n : Nat) (l : List UInt8) (e : Int) : Int × List KepS × Int :=
  if 24 < n then finK seq [] (ended l (if e = 0 then 4 else e)) else finK seq (kepN n ([], l, e)).1 (ended (kepN n ([], l, e)).2.1 (kepN n ([], l, e)).2.2)
def numK (seq : Int) (l : List UInt8) (e : Int) : Int × List KepS × Int := bodyK seq ((taken l e 1).1.headD 0).toNat (taken l e 1).2.1 (taken l e 1).2.2
def parseK (b : List UInt8) : Int × List KepS × Int := numK (tkN (taken b 0 8)) (taken b 0 8).2.1 (taken b 0 8).2.2
theorem ended_bad (l : List UInt8) (e : Int) (h : e ≠ 0) : ended l e = e := by unfold ended; rw [if_neg (by simp [h])]
theorem finK_err (seq : Int) (ks : List KepS) (E : Int) (h : E ≠ 0) : finK seq ks E = (0, [], E) := by unfold finK; rw [if_pos h]
theorem finK_bad (seq : Int) (ks : List KepS) (h : badK seq ks = true) : finK seq ks 0 = (0, [], 10) := by unfold finK; rw [if_neg (by simp), if_pos h]
theorem finK_ok (seq : Int) (ks : List KepS) (h : badK seq ks = false) : finK seq ks 0 = (seq, ks, 0) := by unfold finK; rw [if_neg (by simp), if_neg (by rw [h]; simp)]
/-- an error on the way ends all -/
theorem bodyK_stick (seq : Int) (n j : Nat) (l : List UInt8) (e : Int) (hn : n ≤ 24) (hj : j ≤ n) (h : (kepN j ([], l, e)).2.2 ≠ 0) : bodyK seq n l e = (0, [], (kepN j ([], l, e)).2.2) := by
  have hs := kepN_stick ([], l, e) j h (n - j)
  rw [show j + (n - j) = n by omega] at hs
  unfold bodyK
  rw [if_neg (by omega), hs, ended_bad _ _ h, finK_err _ _ _ h]
structure GoodK (r : Int × List KepS × Int) : Prop where
  seq : 1 ≤ r.1 ∧ r.1 ≤ 1073741824
  cnt : r.2.1.length ≤ 24
  may : ∀ k ∈ r.2.1, mayK k = true
theorem finK_good (seq : Int) (ks : List KepS) (E : Int) (hc : ks.length ≤ 24) (h : (finK seq ks E).2.2 = 0) : finK seq ks E = (seq, ks, 0) ∧ GoodK (seq, ks, 0) := by
  by_cases hE : E ≠ 0
  · rw [finK_err _ _ _ hE] at h; exact absurd h hE
  · have hE : E = 0 := by omega
    subst hE
    cases hb : badK seq ks with
    | true => rw [finK_bad _ _ hb] at h; cases h
    | false =>
      refine ⟨finK_ok _ _ hb, ?_⟩
      simp only [badK, Bool.or_eq_false_iff, decide_eq_false_iff_not] at hb
      obtain ⟨h1, h2, h3⟩ := hb
      refine ⟨by dsimp only; omega, hc, fun k hk => ?_⟩
      have := List.any_eq_false.1 h3 k hk
      simpa using this
theorem bodyK_good (seq : Int) (n : Nat) (l : List UInt8) (e : Int) (h : (bodyK seq n l e).2.2 = 0) : GoodK (bodyK seq n l e) := by
  unfold bodyK at h ⊢
  split at h
  · rename_i hn
    rw [if_pos hn]
    obtain ⟨h1, h2⟩ := finK_good _ _ _ (by simp) h
    rw [h1]; exact h2
  · rename_i hn
    rw [if_neg hn]
    have hl := kepN_len n l e
    generalize kepN n ([], l, e) = K at h hl ⊢
    obtain ⟨h1, h2⟩ := finK_good _ _ _ (by omega) h
    rw [h1]; exact h2
theorem parseK_good (b : List UInt8) (h : (parseK b).2.2 = 0) : GoodK (parseK b) := by unfold parseK numK at h ⊢; exact bodyK_good _ _ _ _ h
/-! ### what was written is read -/
structure KepOk (k : KepS) : Prop where
  path : k.path.length ≤ 65535
  val : -9223372036854775808 ≤ k.value ∧ k.value ≤ 9223372036854775807
  may : mayK k = true
theorem mayK_kind {k : KepS} (h : mayK k = true) : 1 ≤ k.kind ∧ k.kind ≤ 6 := by
  simp only [mayK, Bool.and_eq_true, decide_eq_true_eq] at h
  exact ⟨h.1, h.2.1⟩
theorem stepK_back (l : List KepS) (k : KepS) (h : KepOk k) (m : List UInt8) : stepK (l, kepB k ++ m, 0) = (l ++ [k], m, 0) := by
  have hk := mayK_kind h.may
  have e1 : kepB k ++ m = textBytes k.path ++ ([i64byte k.kind 0] ++ (le8 k.value ++ m)) := by simp [kepB, List.append_assoc]
  have h1 : pathK (l, kepB k ++ m, 0) = (k.path, [i64byte k.kind 0] ++ (le8 k.value ++ m), 0) := by
    show textOf (kepB k ++ m) 0 = _
    rw [e1, text_back, txt_short _ (by have := h.path; omega)]
  have h2 : kindK (l, kepB k ++ m, 0) = ([i64byte k.kind 0], le8 k.value ++ m, 0) := by
    unfold kindK
    rw [h1]
    exact taken_ok _ _ 1 rfl
  have h3 : valK (l, kepB k ++ m, 0) = (le8 k.value, m, 0) := by
    unfold valK
    rw [h2]
    exact taken_ok _ _ 8 (length_le8 _)
  unfold stepK itemK
  rw [h1, h2, h3]
  dsimp only
  have q1 : tkN (le8 k.value, m, (0 : Int)) = k.value := int_back _ h.val
  have q2 : ((([i64byte k.kind 0] : List UInt8).headD 0).toNat : Int) = k.kind := by
    show ((i64byte k.kind 0).toNat : Int) = _
    rw [i64byte0]; omega
  rw [q1, q2]
theorem kepN_back (l : List KepS) (h : ∀ k ∈ l, KepOk k) : ∀ j, j ≤ l.length → kepN j ([], kepsB l, 0) = (l.take j, kepsB (l.drop j), 0) := by
  intro j
  induction j with
  | zero => intro _; rfl
  | succ j ih =>
    intro hj
    have hj' : j < l.length := by omega
    rw [kepN, ih (by omega), List.drop_eq_getElem_cons hj', kepsB_cons, stepK_back _ _ (h _ (List.getElem_mem hj')), List.take_succ_eq_append_getElem hj']
structure CkOk (n : Int) (l : List KepS) : Prop where
  seq : 1 ≤ n ∧ n ≤ 1073741824
  cnt : l.length ≤ 24
  all : ∀ k ∈ l, KepOk k
theorem parseK_back (n : Int) (l : List KepS) (h : CkOk n l) : parseK (bytesK n l) = (n, l, 0) := by
  have hs := h.seq
  have hc := h.cnt
  have t1 : taken (bytesK n l) 0 8 = (le8 n, [i64byte (l.length : Int) 0] ++ kepsB l, 0) := by
    unfold bytesK; rw [List.append_assoc]; exact taken_ok _ _ 8 (length_le8 _)
  have t2 : taken ([i64byte (l.length : Int) 0] ++ kepsB l) 0 1 = ([i64byte (l.length : Int) 0], kepsB l, 0) := taken_ok _ _ 1 rfl
  unfold parseK
  rw [t1]
  unfold numK
  dsimp only
  rw [t2]
  dsimp only
  have q1 : tkN (le8 n, [i64byte (l.length : Int) 0] ++ kepsB l, (0 : Int)) = n := int_back _ (by omega)
  have q2 : (([i64byte (l.length : Int) 0] : List UInt8).headD 0).toNat = l.length := by
    show (i64byte (l.length : Int) 0).toNat = _
    have := i64byte0 (l.length : Int)
    omega
  rw [q1, q2]
  unfold bodyK
  rw [if_neg (by omega), kepN_back l h.all l.length (Nat.le_refl _), List.take_of_length_le (Nat.le_refl _), List.drop_of_length_le (Nat.le_refl _)]
  dsimp only
  rw [show ended (kepsB []) (0 : Int) = 0 from rfl]
  refine finK_ok _ _ ?_
  simp only [badK, Bool.or_eq_false_iff, decide_eq_false_iff_not]
  refine ⟨by omega, by omega, List.any_eq_false.2 fun k hk => ?_⟩
  rw [(h.all k hk).may]; simp

/-! ### the newest -/
abbrev NSt := Int × List KepS × Int
def takesN (s : Int) (st : NSt) (r : Int × List KepS × Int) : Prop := r.2.2 = 0 ∧ (st.1 < r.1 ∨ (r.1 = st.1 ∧ s = st.2.2))
instance (s : Int) (st : NSt) (r : Int × List KepS × Int) : Decidable (takesN s st r) := by unfold takesN; infer_instance
def stepN (s : Int) (st : NSt) (b : List UInt8) : NSt := if takesN s st (parseK b) then ((parseK b).1, (parseK b).2.1, s) else st
def secN (f : FlashSt) (s : Int) (st : NSt) : NSt := (loadR (readF f s)).1.foldl (stepN s) st
def newK (f : FlashSt) : NSt := secN f 5 (secN f 4 (0, [], 4))
def newR (f : FlashSt) : NSt := secN f 5 (secN f 4 (0, [], -1))
structure NOk (st : NSt) : Prop where
  seq : 0 ≤ st.1 ∧ st.1 ≤ 1073741824
  sec : st.2.2 = -1 ∨ st.2.2 = 4 ∨ st.2.2 = 5
  cnt : st.2.1.length ≤ 24
theorem NOk.step {s : Int} (hs : s = 4 ∨ s = 5) {st : NSt} (h : NOk st) (b : List UInt8) : NOk (stepN s st b) := by
  unfold stepN
  split
  · rename_i ht
    have hg := parseK_good b ht.1
    have := hg.seq
    exact ⟨by dsimp only; omega, by dsimp only; omega, hg.cnt⟩
  · exact h
theorem NOk.fold {s : Int} (hs : s = 4 ∨ s = 5) : ∀ (bs : List (List UInt8)) {st : NSt}, NOk st → NOk (bs.foldl (stepN s) st)
  | [], _, h => h
  | b :: bs, _, h => NOk.fold hs bs (h.step hs b)
def RelN (a b : NSt) : Prop := a = b ∨ (a = (0, [], -1) ∧ b = (0, [], 4))
theorem RelN.step {s : Int} {a b : NSt} (h : RelN a b) (x : List UInt8) : RelN (stepN s a x) (stepN s b x) := by
  rcases h with rfl | ⟨rfl, rfl⟩
  · exact .inl rfl
  · unfold stepN
    by_cases h0 : (parseK x).2.2 = 0
    · have hg := (parseK_good x h0).seq
      have p1 : takesN s (0, [], -1) (parseK x) := ⟨h0, .inl (by dsimp only; omega)⟩
      have p2 : takesN s (0, [], 4) (parseK x) := ⟨h0, .inl (by dsimp only; omega)⟩
      rw [if_pos p1, if_pos p2]
      exact .inl rfl
    · have p1 : ¬ takesN s (0, [], -1) (parseK x) := fun h => h0 h.1
      have p2 : ¬ takesN s (0, [], 4) (parseK x) := fun h => h0 h.1
      rw [if_neg p1, if_neg p2]
      exact .inr ⟨rfl, rfl⟩
theorem RelN.fold {s : Int} : ∀ (bs : List (List UInt8)) {a b : NSt}, RelN a b → RelN (bs.foldl (stepN s) a) (bs.foldl (stepN s) b)
  | [], _, _, h => h
  | x :: bs, _, _, h => RelN.fold bs (h.step x)
theorem newK_sec (f : FlashSt) : (newK f).2.2 = 4 ∨ (newK f).2.2 = 5 := by
  have key : ∀ (s : Int), (s = 4 ∨ s = 5) → ∀ (bs : List (List UInt8)) (st : NSt), (st.2.2 = 4 ∨ st.2.2 = 5) → ((bs.foldl (stepN s) st).2.2 = 4 ∨ (bs.foldl (stepN s) st).2.2 = 5) := by
    intro s hs bs
    induction bs with
    | nil => intro st h; exact h
    | cons b bs ih =>
      intro st h
      refine ih _ ?_
      unfold stepN
      split
      · exact hs
      · exact h
  exact key 5 (.inr rfl) _ _ (key 4 (.inl rfl) _ _ (.inl rfl))
theorem newK_ok (f : FlashSt) : NOk (newK f) := NOk.fold (.inr rfl) _ (NOk.fold (.inl rfl) _ ⟨by decide, .inr (.inl rfl), by simp⟩)
/-! ### a save -/
def writeK (f : FlashSt) (s : Int) (b : List UInt8) : Int × FlashSt :=
  if (appendP f s b).1 ≠ 4 then appendP f s b else if (eraseF (appendP f s b).2 (9 - s)).1 ≠ 0 then eraseF (appendP f s b).2 (9 - s) else appendP (eraseF (appendP f s b).2 (9 - s)).2 (9 - s) b
def saveK (f : FlashSt) (l : List KepS) : Int × FlashSt :=
  if 24 < l.length then (4, f) else if 1073741824 ≤ (newK f).1 then (11, f) else writeK f (newK f).2.2 (bytesK ((newK f).1 + 1) l)
end Go.Proofs.Ytcpifcdndhhmgaa
