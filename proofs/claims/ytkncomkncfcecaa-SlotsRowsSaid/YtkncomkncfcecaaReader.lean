/- append onto a row of one's own, the elder handle kept: in place, or all that was stays. No program in sight but for the byte's type. Numbers and texts as bytes: plain. code.Int, code.Byte, code.Text and the document's: what each returns. code.Text and the document's: what each returns. code's reader: what each of its calls returns and leaves. -/
import Derived.Test.YtkncomkncfcecaaConcat
import Derived.Maps.AppendAt
import Derived.Lib.AppendStr
import Derived.Test.YtkncomkncfcecaaLib
import Derived.Test.YtkncomkncfcecaaChecked
import Derived.Lib.ConvBytes
import Derived.Deep.DeepCutAuto
set_option linter.unusedVariables false
set_option linter.unusedSimpArgs false
namespace Go.Proofs.Ytkncomkncfcecaa
open Go.RowKit

section
variable {P : Program} (w : World)

theorem run_append_K (base : Nat) (t ty e : TypeId) (i : TypeInfo) (z : Value) (bytes : Nat) (ht : P.underlying t = some (.slice e)) (hi : P.info? e = some i) (hz : i.zero = some z)
    (hsize : i.size = 1) (hby : i.bytes = bytes) (hzs : z.cells.size = 1)
    (v : Value) (n : Nat) (xs : List Value) (hown : w.ownsRow base e 1 v n xs)
    (A : Option Addr) (m c : Nat) (news : List Value) (hr : Vs w A m news) (h1 : ∀ u ∈ news, u.oneCell' = true)
    (hbytes : (n + m) * bytes ≤ 140737488355328) (h63 : n + m ≤ maxLen) (hbase : base ≤ w.heap.size) :
    ∃ v' w', (Builtin.append_ #[t, t] ty #[v, .slice A m c]).run P w = .ok v' w' ∧ w'.ownsRow base e 1 v' (n + m) (xs ++ news) ∧ w.grownBy w' v.ownBlock ∧
      (v'.ownBlock = v.ownBlock ∨ v'.ownBlock = some w.heap.size) ∧
      ((∃ g cap, v = .slice (some ⟨g, 0, none⟩) n cap ∧ v' = .slice (some ⟨g, 0, none⟩) (n + m) cap) ∨ (Below w.heap.size w w' ∧ (v'.ownBlock = none ∨ v'.ownBlock = some w.heap.size))) := by
  obtain ⟨v', w', hrun, h2, h3, h4⟩ := run_append_V (P := P) w base t ty e i z bytes ht hi hz hsize hby hzs v n xs hown A m c news hr h1 hbytes h63 hbase
  refine ⟨v', w', hrun, h2, h3, h4, ?_⟩
  rcases A with _ | ad
  · have hm : m = 0 := by
      rcases Nat.eq_zero_or_pos m with h0 | h0
      · exact h0
      · obtain ⟨_, _, h, _⟩ := hr.2 h0; cases h
    subst hm
    rw [run_append_V0 w base t ty e i 1 ht hi v n xs hown c] at hrun
    injection hrun with e1 e2
    subst e1; subst e2
    rcases hown.2 with ⟨rfl, rfl⟩ | ⟨g, cap, cur, rfl, _⟩
    · exact .inr ⟨Below.refl _ _, .inl rfl⟩
    · exact .inl ⟨g, cap, rfl, rfl⟩
  · have hcells : ∀ j u, news[j]? = some u → w.cell? (ad.add j) = some u := fun j u hu => by
      have hk : j < news.length := (List.getElem?_eq_some_iff.1 hu).1
      obtain ⟨b, o, e, hc⟩ := hr.2 (by rw [← hr.1]; omega)
      injection e with e; subst e
      rw [Addr.add_lit]; exact hc j u hu
    have hnew : ∀ cs, Below w.heap.size w (w.drew.alloc (.cells cs e)) := fun cs => ((Below.refl _ w).drew).alloc (Nat.le_refl _) _
    rcases hown.2 with ⟨rfl, rfl⟩ | ⟨g, cap, cur, rfl, hbg, hg, hnc, hcm, hcs, htake⟩
    · have : w.grownBy w' none := h3
      exact .inr ⟨⟨this.os, this.tape, this.output, this.size, fun i hi => this.block i hi (by simp)⟩, h4⟩
    · by_cases hroom : n + m ≤ cap
      · have hfit : n * i.size + news.length ≤ cur.size := by rw [hsize, hcs, hr.1, Nat.mul_one, Nat.mul_one]; exact hroom
        have hrr := run_append_room (P := P) (w := w) t ty e i ht hi g n cap cur hg ad m c news (by rw [hsize, Nat.mul_one]; exact hr.1) hcells h1 hroom hfit
        rw [hrr] at hrun
        injection hrun with e1 e2
        exact .inl ⟨g, cap, rfl, e1.symm⟩
      · have holds : ∀ j u, xs[j]? = some u → w.cell? ((⟨g, 0, none⟩ : Addr).add j) = some u := hown.cells (g := g) rfl
        have hrr := run_append_grow (P := P) (w := w) t ty e i z ht hi hz ⟨g, 0, none⟩ n cap xs (by rw [hsize]; exact hown.1) holds ad m c news (by rw [hsize, Nat.mul_one]; exact hr.1) hcells (by omega) (by simp only [maxLen] at h63; omega) (growslice_fits (by omega) (by rw [hby]; exact hbytes))
        rw [hrr] at hrun
        injection hrun with e1 e2
        subst e1; subst e2
        exact .inr ⟨hnew _, .inr rfl⟩

/-- the same, a string's bytes -/
theorem run_append_K_string (base : Nat) (t u ty e : TypeId) (i : TypeInfo) (ht : P.underlying t = some (.slice e)) (hu : P.underlying u = some .string) (hi : P.info? e = some i) (hz : i.zero = some (.int .u8 0))
    (hsize : i.size = 1) (hby : i.bytes = 1) (v : Value) (n : Nat) (xs : List Value) (hown : w.ownsRow base e 1 v n xs) (s : ByteArray)
    (hbytes : n + s.size ≤ 140737488355328) (hbase : base ≤ w.heap.size) :
    ∃ v' w', (Builtin.append_ #[t, u] ty #[v, .string s]).run P w = .ok v' w' ∧ w'.ownsRow base e 1 v' (n + s.size) (xs ++ Lib.strCells s) ∧ w.grownBy w' v.ownBlock ∧
      ((∃ g cap, v = .slice (some ⟨g, 0, none⟩) n cap ∧ v' = .slice (some ⟨g, 0, none⟩) (n + s.size) cap) ∨ (Below w.heap.size w w' ∧ (v'.ownBlock = none ∨ v'.ownBlock = some w.heap.size))) := by
  obtain ⟨v', w', hrun, h2, h3, hnil⟩ := Lib.run_append_own_string (P := P) w base t u ty e i ht hu hi hz hsize hby v n xs hown s (by simp only [maxLen]; omega) hbytes hbase
  refine ⟨v', w', hrun, h2, h3, ?_⟩
  rcases hown.2 with ⟨rfl, rfl⟩ | ⟨g, cap, cur, rfl, hbg, hg, hnc, hcm, hcs, htake⟩
  · have : w.grownBy w' none := h3
    refine .inr ⟨⟨this.os, this.tape, this.output, this.size, fun i hi => this.block i hi (by simp)⟩, ?_⟩
    by_cases hs : s.size = 0
    · rw [hnil.2 ⟨rfl, hs⟩]; exact .inl rfl
    · have hrr := run_append_nil_string (P := P) (w := w) t u ty e i (.int .u8 0) ht hu hi hz s (by omega) (by omega) (by rw [hby]; omega)
      rw [hrr] at hrun
      injection hrun with e1 e2
      subst e1
      exact .inr rfl
  · by_cases hroom : n + s.size ≤ cap
    · have hrr := Lib.run_append_room_string (P := P) w t u ty e i ht hu hi hsize g n cap cur hg s hroom (by rw [hcs]; omega)
      rw [hrr] at hrun
      injection hrun with e1 e2
      exact .inl ⟨g, cap, rfl, e1.symm⟩
    · have holds : ∀ j u, xs[j]? = some u → w.cell? ((⟨g, 0, none⟩ : Addr).add j) = some u := hown.cells (g := g) rfl
      have hrr := Lib.run_append_grow_string (P := P) w t u ty e i (.int .u8 0) ht hu hi hz ⟨g, 0, none⟩ n cap xs (by rw [hsize]; exact hown.1) holds s (by omega) (by omega) (by rw [hby]; exact growslice_fits (by omega) (by omega))
      rw [hrr] at hrun
      injection hrun with e1 e2
      subst e1; subst e2
      exact .inr ⟨((Below.refl _ w).drew).alloc (Nat.le_refl _) _, .inr rfl⟩

/-- 'v' was made of the owned row 'v0' by appending; the elder handle stands -/
structure Onto (w wr : World) (base : Nat) (e : TypeId) (v0 : Value) (n : Nat) (xs : List Value) (v : Value) (N : Nat) (ys : List Value) : Prop where
  now : wr.ownsRow base e 1 v N ys
  was : wr.ownsRow base e 1 v0 n xs
  front : n ≤ N ∧ ys.take n = xs
  grown : w.grownBy wr v0.ownBlock
  old : ∀ b, v0.ownBlock = some b → b < w.heap.size
  form : (∃ g cap, v0 = .slice (some ⟨g, 0, none⟩) n cap ∧ v = .slice (some ⟨g, 0, none⟩) N cap) ∨ ∀ b, v.ownBlock = some b → w.heap.size ≤ b

theorem own_front {W : World} {base : Nat} {e : TypeId} {g cap n N : Nat} {xs ys : List Value} (h : W.ownsRow base e 1 (.slice (some ⟨g, 0, none⟩) N cap) N ys) (hn : n ≤ N) (hx : ys.take n = xs) :
    W.ownsRow base e 1 (.slice (some ⟨g, 0, none⟩) n cap) n xs := by
  have hl := h.1
  refine ⟨by rw [← hx, List.length_take, hl]; omega, .inr ?_⟩
  rcases h.2 with ⟨hv, _⟩ | ⟨g', cap', cur, hv, hb, hg, h1, h2, h3, h4⟩
  · cases hv
  · injection hv with e1 e2 e3
    injection e1 with e1
    injection e1 with e1 _ _
    subst e1; subst e3
    refine ⟨g, cap, cur, rfl, hb, hg, by omega, h2, h3, ?_⟩
    rw [← hx, ← h4, List.take_take]
    congr 1
    omega

variable {w}
theorem Onto.start {base : Nat} {e : TypeId} {v0 : Value} {n : Nat} {xs : List Value} (h : w.ownsRow base e 1 v0 n xs) : Onto w w base e v0 n xs v0 n xs := by
  refine ⟨h, h, ⟨Nat.le_refl _, List.take_of_length_le (by rw [h.1]; omega)⟩, ⟨rfl, rfl, rfl, Nat.le_refl _, fun _ _ _ => rfl⟩, fun b hb => (h.lt b hb).2, ?_⟩
  rcases h.2 with ⟨rfl, rfl⟩ | ⟨g, cap, cur, rfl, _⟩
  · exact .inr fun b hb => by simp [Value.ownBlock] at hb
  · exact .inl ⟨g, cap, rfl, rfl⟩
theorem Onto.below {wr wr' : World} {base : Nat} {e : TypeId} {v0 v : Value} {n N : Nat} {xs ys : List Value} (h : Onto w wr base e v0 n xs v N ys) (hb : Below wr.heap.size wr wr') : Onto w wr' base e v0 n xs v N ys := by
  refine ⟨own_below h.now hb, own_below h.was hb, h.front, ⟨hb.os.trans h.grown.os, hb.tape.trans h.grown.tape, hb.output.trans h.grown.output, Nat.le_trans h.grown.size hb.size, fun i hi hne => ?_⟩, h.old, h.form⟩
  rw [hb.block i (Nat.lt_of_lt_of_le hi h.grown.size)]
  exact h.grown.block i hi hne
/-- one more append: what the append's law says -/
theorem Onto.step {wr w' : World} {base : Nat} {e : TypeId} {v0 v v' : Value} {n N m : Nat} {xs ys news : List Value} (h : Onto w wr base e v0 n xs v N ys)
    (h2 : w'.ownsRow base e 1 v' (N + m) (ys ++ news)) (h3 : wr.grownBy w' v.ownBlock)
    (h5 : (∃ g cap, v = .slice (some ⟨g, 0, none⟩) N cap ∧ v' = .slice (some ⟨g, 0, none⟩) (N + m) cap) ∨ (Below wr.heap.size wr w' ∧ (v'.ownBlock = none ∨ v'.ownBlock = some wr.heap.size))) : Onto w w' base e v0 n xs v' (N + m) (ys ++ news) := by
  have hyl : ys.length = N := by simpa using h.now.1
  have hfr : n ≤ N + m ∧ (ys ++ news).take n = xs := by
    refine ⟨by have := h.front.1; omega, ?_⟩
    rw [List.take_append_of_le_length (by rw [hyl]; exact h.front.1)]
    exact h.front.2
  rcases h5 with ⟨g, cap, rfl, rfl⟩ | ⟨hb, hv'⟩
  · have h3 : wr.grownBy w' (some g) := h3
    rcases h.form with ⟨g', cap', e1, e2⟩ | hf
    · subst e1
      injection e2 with e2 _ e3; injection e2 with e2; injection e2 with e2 _ _
      subst e2; subst e3
      have hg0 : w.grownBy wr (some g) := h.grown
      refine ⟨h2, own_front h2 hfr.1 hfr.2, hfr, ?_, h.old, .inl ⟨g, cap, rfl, rfl⟩⟩
      exact ⟨h3.os.trans hg0.os, h3.tape.trans hg0.tape, h3.output.trans hg0.output, Nat.le_trans hg0.size h3.size, fun i hi hne => (h3.block i (Nat.lt_of_lt_of_le hi hg0.size) hne).trans (hg0.block i hi hne)⟩
    · have hgw : w.heap.size ≤ g := hf g rfl
      refine ⟨h2, h.was.kept h3 ?_, hfr, ?_, h.old, .inr fun b hb => hf b hb⟩
      · cases hv : v0.ownBlock with
        | none => exact .inl rfl
        | some b =>
          have := h.old b hv
          refine .inr fun he => ?_
          injection he with he
          omega
      · refine ⟨h3.os.trans h.grown.os, h3.tape.trans h.grown.tape, h3.output.trans h.grown.output, Nat.le_trans h.grown.size h3.size, fun i hi hne => (h3.block i (Nat.lt_of_lt_of_le hi h.grown.size) ?_).trans (h.grown.block i hi hne)⟩
        intro he
        injection he with he
        omega
  · refine ⟨h2, own_below h.was hb, hfr, ?_, h.old, .inr fun b hb' => ?_⟩
    · exact ⟨hb.os.trans h.grown.os, hb.tape.trans h.grown.tape, hb.output.trans h.grown.output, Nat.le_trans h.grown.size hb.size, fun i hi hne => (hb.block i (Nat.lt_of_lt_of_le hi h.grown.size)).trans (h.grown.block i hi hne)⟩
    · rcases hv' with hv' | hv'
      · rw [hv'] at hb'; cases hb'
      · rw [hv'] at hb'
        injection hb' with hb'
        subst hb'
        exact h.grown.size
end
end Go.Proofs.Ytkncomkncfcecaa
set_option linter.unusedVariables false
set_option linter.unusedSimpArgs false
namespace Go.Proofs.Ytkncomkncfcecaa

/-- the k-th byte of a number, the lowest first -/
def i64byte (x : Int) (k : Nat) : UInt8 := UInt8.ofNat ((x % 18446744073709551616).toNat / 256 ^ k)
theorem i64byte_val (x : Int) (k : Nat) : ((i64byte x k).toNat : Int) = x % 18446744073709551616 / 2 ^ (8 * k) % 256 := by
  unfold i64byte
  rw [UInt8.toNat_ofNat']
  have h0 : 0 ≤ x % 18446744073709551616 := Int.emod_nonneg _ (by decide)
  generalize x % 18446744073709551616 = y at h0
  obtain ⟨n, rfl⟩ := Int.eq_ofNat_of_zero_le h0
  have h2 : (2 : Int) ^ (8 * k) = ((256 ^ k : Nat) : Int) := by
    rw [Int.pow_mul, Int.natCast_pow]; rfl
  rw [h2, Int.toNat_natCast, ← Int.natCast_ediv]
  generalize n / 256 ^ k = q
  omega
def le8 (x : Int) : List UInt8 := (List.range 8).map (i64byte x)
theorem length_le8 (x : Int) : (le8 x).length = 8 := by simp [le8]
theorem le8_next (x : Int) (k : Nat) (hk : k < 8) : (le8 x).take (k + 1) = (le8 x).take k ++ [i64byte x k] := by
  rw [List.take_succ_eq_append_getElem (by rw [length_le8]; exact hk)]
  simp [le8]
theorem le8_all (x : Int) : (le8 x).take 8 = le8 x := List.take_of_length_le (by rw [length_le8]; exact Nat.le_refl _)
/-- the lowest byte -/
theorem i64byte0 (x : Int) : ((i64byte x 0).toNat : Int) = x % 256 := by
  rw [i64byte_val]; simp

/-- a text's bytes, at most 65535 -/
def txt (s : List UInt8) : List UInt8 := s.take 65535
def textBytes (s : List UInt8) : List UInt8 := [UInt8.ofNat (txt s).length, UInt8.ofNat ((txt s).length / 256)] ++ txt s
theorem length_txt (s : List UInt8) : (txt s).length = min 65535 s.length := by simp [txt]
theorem length_textBytes (s : List UInt8) : (textBytes s).length = (txt s).length + 2 := by simp [textBytes]

/-- the number of n bytes, the lowest first -/
def leN (l : List UInt8) : Nat := l.foldr (fun x r => x.toNat + 256 * r) 0
theorem leN_append (a b : List UInt8) : leN (a ++ b) = leN a + 256 ^ a.length * leN b := by
  induction a with
  | nil => simp [leN]
  | cons x a ih =>
    have h1 : leN (x :: a ++ b) = x.toNat + 256 * leN (a ++ b) := rfl
    have h2 : leN (x :: a) = x.toNat + 256 * leN a := rfl
    rw [h1, h2, ih, List.length_cons, Nat.pow_succ, Nat.mul_add, ← Nat.mul_assoc, Nat.mul_comm 256 (256 ^ a.length), Nat.add_assoc]
theorem leN_lt (l : List UInt8) : leN l < 256 ^ l.length := by
  induction l with
  | nil => simp [leN]
  | cons x l ih =>
    have h2 : leN (x :: l) = x.toNat + 256 * leN l := rfl
    have := byte_lt x
    rw [h2, List.length_cons, Nat.pow_succ]
    omega
theorem leN_one (x : UInt8) : leN [x] = x.toNat := by simp [leN]
theorem u64_or_join (x y k : Nat) (hx : x < 2 ^ k) (hy : y * 2 ^ k + x < 18446744073709551616) : bits .or .u64 (x : Int) ((y * 2 ^ k : Nat) : Int) = ((x + y * 2 ^ k : Nat) : Int) := by
  have h : x ||| y * 2 ^ k = x + y * 2 ^ k := by
    rw [Nat.or_comm, nat_join k (y * 2 ^ k) x (Nat.mul_mod_left _ _) hx, Nat.add_comm]
  have o : ∀ a : Nat, a < 18446744073709551616 → (BitVec.ofInt 64 (a : Int)).toNat = a := fun a ha => by
    rw [BitVec.ofInt_natCast, BitVec.toNat_ofNat]; exact Nat.mod_eq_of_lt (by omega)
  show IntKind.u64.wrap ((BitVec.ofInt 64 (x : Int) ||| BitVec.ofInt 64 ((y * 2 ^ k : Nat) : Int)).toNat : Int) = _
  rw [BitVec.toNat_or, o x (by omega), o (y * 2 ^ k) (by omega), h, IntWalk.u64_in _ (by omega)]
end Go.Proofs.Ytkncomkncfcecaa
set_option linter.unusedVariables false
set_option linter.unusedSimpArgs false
namespace Go.Proofs.Ytkncomkncfcecaa
open Go.RowKit

/-- append onto a row that was made of v0 -/
theorem ontoB {wr : World} {ops : Array Oper} {rest : List Oper} {o : Oper} {a : Act} {Q : Exit → Act → World → Prop} (hgd : o.guard = none) (s x : Operand)
    (ho : o.op = .call { callee := .builtin .append, args := #[s, x], argTypes := #[32, 32] })
    {w : World} {base : Nat} {v0 v : Value} {n N : Nat} {l r : List UInt8} (hs : a.eval s = v) (h : Onto w wr base 5 v0 n (bv l) v N (bv r))
    (A : Option Addr) (m c : Nat) (k : List UInt8) (hx : a.eval x = .slice A m c) (hr : Bs wr A m k) (hb : N + m ≤ 70368744177664) (hbase : base ≤ wr.heap.size)
    (hK : ∀ v' w', Onto w w' base 5 v0 n (bv l) v' (N + m) (bv (r ++ k)) → wr.heap.size ≤ w'.heap.size → wpList Try.prog ops Q rest (a.put o.dst v') w') : wpList Try.prog ops Q (o :: rest) a wr := by
  obtain ⟨i0, hi0, hz0, hz1, hz2⟩ := info_parts byteInfo
  refine wpList_plain hgd fun K hKK => ?_
  obtain ⟨v', w', hrun, h2, h3, _, h5⟩ := run_append_K (P := Try.prog) wr base 32 o.type 5 i0 (.int .u8 0) 1 Try.underlying32 hi0 hz0 hz1 hz2 rfl v N (bv r) h.now A m c (bv k) hr (bv_one k) (by omega) (by simp only [maxLen]; omega) hbase
  unfold Oper.wp execOp
  simp only [ho, resolve, invoke, builtin, Sem.run_bind, Sem.run_pure, Result.andThen_ok, List.map_toArray, List.map_cons, List.map_nil, hs, hx, hrun]
  have := h.step h2 h3 h5
  rw [← bv_append] at this
  exact hKK _ _ (hK v' w' this h3.size)

set_option maxRecDepth 100000 in
theorem refInt_any (v0 : Value) (n : Nat) (l : List UInt8) (x : Int) (w : World) (base : Nat) (hown : w.ownsRow base 5 1 v0 n (bv l)) (hbase : base ≤ w.heap.size) (hn : n ≤ 1099511627776) (hx : -9223372036854775808 ≤ x ∧ x ≤ 9223372036854775807) :
    Calls Try.prog 71 #[v0, .int .i64 x] w fun e w' => ∃ v, e = .returned v ∧ Onto w w' base 5 v0 n (bv l) v (n + 8) (bv (l ++ le8 x)) := by
  go_enter Try.func71, Try.ntmps71
  go_wp2_with fail
  go_loopw [0, 5] (fun v i wr => ∃ (k : Nat), k ≤ 8 ∧ i = .int .i64 k ∧ Onto w wr base 5 v0 n (bv l) v (n + k) (bv (l ++ (le8 x).take k))) (fun _ i _ => 8 - (intOf i).toNat)
  case atStart => exact ⟨0, by omega, rfl, by simpa using Onto.start hown⟩
  case round =>
    obtain ⟨k, hk, rfl, h⟩ := hrel
    by_cases hlt : k < 8
    · have hk8 : (k : Int) < 8 := by omega
      have hk0 : (0 : Int) ≤ k := by omega
      have hbw := h.grown.size
      have e1 : IntKind.u64.wrap x / 2 ^ (8 * k) % 256 = ((i64byte x k).toNat : Int) := (i64byte_val x k).symm
      have e2 := le8_next x k hlt
      generalize i64byte x k = z at e1 e2
      have E2 := Lib.hid e2; clear e2
      go_wp2_with (at_builtin; refine ontoB rfl (.tmp 10) (.tmp 18) rfl rfl (h.below (.alloc (.refl _ _) (Nat.le_refl _) _)) _ _ _ [z] rfl (Bs.lit _ rfl [z] rfl rfl) (by omega) (by simp; omega) ?_; intro v2 w2 h2 hs2)
      go_roundw
      case rel => exact ⟨k + 1, by omega, by go_num, by rw [E2.out, ← List.append_assoc]; exact h2⟩
      case measure => simp [intOf]; omega
    · obtain rfl : k = 8 := by omega
      rw [le8_all] at h
      go_wp2_with fail
      go_ret
      exact ⟨_, rfl, h⟩

set_option maxRecDepth 100000 in
theorem codeInt_any (A : Option Addr) (n c : Nat) (l : List UInt8) (x : Int) (w : World) (hA : Bs w A n l) (hn : n ≤ 1099511627776) (hx : -9223372036854775808 ≤ x ∧ x ≤ 9223372036854775807) :
    Calls Try.prog 58 #[.slice A n c, .int .i64 x] w fun e w' => ∃ v, e = .returned v ∧ w'.ownsRow w.heap.size 5 1 v (n + 8) (bv (l ++ le8 x)) ∧ Below w.heap.size w w' := by
  go_enter Try.func58, Try.ntmps58
  go_wp2_with (go_at_call 82; refine Calls.mono (clone_any _ _ _ l _ hA (by omega)) ?_; rintro e w1 ⟨v1, rfl, hown1, hb1⟩)
  go_loopw [5, 6, 9] (fun v _ i wr => ∃ (k : Nat), k ≤ 8 ∧ i = .int .i64 k ∧ wr.ownsRow w.heap.size 5 1 v (n + k) (bv (l ++ (le8 x).take k)) ∧ Below w.heap.size w wr) (fun _ _ i _ => 8 - (intOf i).toNat)
  case atStart => exact ⟨0, by omega, rfl, by simpa using hown1, hb1⟩
  case round =>
    obtain ⟨k, hk, rfl, hown, hbr⟩ := hrel
    by_cases hlt : k < 8
    · have hk8 : (k : Int) < 8 := by omega
      have hk0 : (0 : Int) ≤ k := by omega
      have hbw := hbr.size
      have e1 : IntKind.u64.wrap x / 2 ^ (8 * k) % 256 = ((i64byte x k).toNat : Int) := (i64byte_val x k).symm
      have e2 := le8_next x k hlt
      generalize i64byte x k = z at e1 e2
      have E2 := Lib.hid e2; clear e2
      go_wp2_with (at_builtin; refine appendB _ rfl (.tmp 12) (.tmp 19) rfl w.heap.size _ _ _ rfl (own_below hown (.alloc (.refl _ _) (Nat.le_refl _) _)) _ _ _ [z] rfl (Bs.lit _ rfl [z] rfl rfl) (by omega) (by simp; omega) ?_; intro v2 w2 hown2 hg2 hat2)
      go_roundw
      case rel => exact ⟨k + 1, by omega, by go_num, by rw [E2.out, ← List.append_assoc]; exact hown2, below_append (hbr.alloc hbr.size _) hg2 (own_below hown (.alloc (.refl _ _) (Nat.le_refl _) _)) (by simp; omega)⟩
      case measure => simp [intOf]; omega
    · obtain rfl : k = 8 := by omega
      rw [le8_all] at hown
      obtain ⟨B, c2, rfl, q1, q2, q3, _⟩ := own_slice hown
      go_wp2_with (go_at_call 82; refine Calls.mono (clone_any _ _ _ (l ++ le8 x) _ q3 (by omega)) ?_; rintro e w3 ⟨v3, rfl, hown3, hb3⟩)
      go_ret
      exact ⟨_, rfl, ownsRow_base hown3 hbr.size, below_then hbr hb3 hbr.size⟩
end Go.Proofs.Ytkncomkncfcecaa
set_option linter.unusedVariables false
set_option linter.unusedSimpArgs false
namespace Go.Proofs.Ytkncomkncfcecaa
open Go.RowKit

theorem strCells_bv (t : List UInt8) : Lib.strCells ⟨t.toArray⟩ = bv t := by
  simp [Lib.strCells, bv]
theorem size_str (t : List UInt8) : (⟨t.toArray⟩ : ByteArray).size = t.length := by simp [ByteArray.size]

/-- append of a string onto a row that was made of v0 -/
theorem ontoS {wr : World} {ops : Array Oper} {rest : List Oper} {o : Oper} {a : Act} {Q : Exit → Act → World → Prop} (hgd : o.guard = none) (s x : Operand)
    (ho : o.op = .call { callee := .builtin .append, args := #[s, x], argTypes := #[32, 9] })
    {w : World} {base : Nat} {v0 v : Value} {n N : Nat} {l r : List UInt8} (hs : a.eval s = v) (h : Onto w wr base 5 v0 n (bv l) v N (bv r))
    (k : List UInt8) (hx : a.eval x = .string ⟨k.toArray⟩) (hb : N + k.length ≤ 70368744177664) (hbase : base ≤ wr.heap.size)
    (hK : ∀ v' w', Onto w w' base 5 v0 n (bv l) v' (N + k.length) (bv (r ++ k)) → wr.heap.size ≤ w'.heap.size → wpList Try.prog ops Q rest (a.put o.dst v') w') : wpList Try.prog ops Q (o :: rest) a wr := by
  obtain ⟨i0, hi0, hz0, hz1, hz2⟩ := info_parts byteInfo
  refine wpList_plain hgd fun K hKK => ?_
  obtain ⟨v', w', hrun, h2, h3, h5⟩ := run_append_K_string (P := Try.prog) wr base 32 9 o.type 5 i0 Try.underlying32 Try.underlying9 hi0 hz0 hz1 hz2 v N (bv r) h.now ⟨k.toArray⟩ (by rw [size_str]; omega) hbase
  rw [size_str] at h2 h5
  rw [strCells_bv] at h2
  unfold Oper.wp execOp
  simp only [ho, resolve, invoke, builtin, Sem.run_bind, Sem.run_pure, Result.andThen_ok, List.map_toArray, List.map_cons, List.map_nil, hs, hx, hrun]
  have := h.step h2 h3 h5
  rw [← bv_append] at this
  exact hKK _ _ (hK v' w' this h3.size)

/-- '[]byte(s)' -/
theorem strBytes {W : World} {ops : Array Oper} {rest : List Oper} {o : Oper} {a : Act} {Q : Exit → Act → World → Prop} (hgd : o.guard = none) (x : Operand) (ho : o.op = .convert 9 32 x)
    (s : List UInt8) (hx : a.eval x = .string ⟨s.toArray⟩) (hs : s.length ≤ 9223372036854775807)
    (hK : ∀ c w', Bs w' (some ⟨W.heap.size, 0, none⟩) s.length s → Below W.heap.size W w' → s.length ≤ c → c ≤ 9223372036854775807 → W.heap.size < w'.heap.size →
      wpList Try.prog ops Q rest (a.put o.dst (.slice (some ⟨W.heap.size, 0, none⟩) s.length c)) w') : wpList Try.prog ops Q (o :: rest) a W := by
  refine wpList_plain hgd fun K hKK => ?_
  have hr := run_bytes_of_string (P := Try.prog) W 9 32 5 ⟨s.toArray⟩ Try.underlying9 Try.underlying32 Try.underlying5
  rw [size_str] at hr
  unfold Oper.wp execOp
  simp only [ho, hx, Sem.run_bind, Sem.run_pure, Result.andThen_ok, hr]
  refine hKK _ _ (hK _ _ ?_ ((Below.refl _ W).drew.alloc (Nat.le_refl _) _) (grownCap_ge W s.length 0 5) ?_ (by simp))
  · refine ⟨by simp [bv], fun _ => ⟨_, _, rfl, fun i u hu => ?_⟩⟩
    rw [Nat.zero_add]
    simp only [bv, List.getElem?_map, Option.map_eq_some_iff] at hu
    obtain ⟨z, hz, rfl⟩ := hu
    obtain ⟨hlt, rfl⟩ := List.getElem?_eq_some_iff.1 hz
    have := bytesRow_at ⟨s.toArray⟩ (grownCap W s.length 0 5) i (by simpa using hlt)
    refine cell_of_block (heap_at_new _ _ rfl) ?_
    simpa using this
  · have := grownCap_le_maxLen W s.length 0 5 (by simp only [maxLen]; omega)
    simpa [maxLen] using this

theorem shr8 (n : Nat) (h : n ≤ 65535) : ((UInt8.ofNat (n / 256)).toNat : Int) = (n : Int) / 256 := by
  rw [UInt8.toNat_ofNat']; omega
theorem low8 (n : Nat) : ((UInt8.ofNat n).toNat : Int) = (n : Int) % 256 := by
  rw [UInt8.toNat_ofNat']; omega

theorem str_cut (s : List UInt8) (k : Nat) : (⟨s.toArray⟩ : ByteArray).extract 0 k = ⟨(s.take k).toArray⟩ := by
  apply ByteArray.ext
  simp [ByteArray.data_extract]
theorem txt_long (s : List UInt8) (h : 65535 < s.length) : (txt s).length = 65535 ∧ textBytes s = [255, 255] ++ txt s := by
  have h1 : (txt s).length = 65535 := by rw [length_txt]; omega
  refine ⟨h1, ?_⟩
  unfold textBytes
  rw [h1]
  rfl
theorem txt_short (s : List UInt8) (h : ¬ 65535 < s.length) : txt s = s := List.take_of_length_le (by omega)

theorem codeText_join (A : Option Addr) (n c : Nat) (l T : List UInt8) (b0 b1 : UInt8) (cT : Nat) (w w1 : World) (B : Nat) (hB : B = w.heap.size) (h1 : Below (w.heap.size + 1) (w.alloc (.cells #[.int .u8 (b0.toNat : Int), .int .u8 (b1.toNat : Int)] 5)) w1) (hA : Bs w A n l) (hn : n ≤ 1099511627) (hc : n ≤ c) (hc2 : c ≤ 9223372036854775807)
    (hT : Bs w1 (some ⟨B + 1, 0, none⟩) T.length T) (hcT : T.length ≤ cT) (hcT2 : cT ≤ 9223372036854775807) (hTl : T.length ≤ 65535) {Q : Ending → World → Prop}
    (h : ∀ v w', w'.ownsRow w.heap.size 5 1 v (n + 2 + T.length) (bv (l ++ ([b0, b1] ++ T))) → Below w.heap.size w w' → Q (.returned v) w') :
    Calls Try.prog 57 #[.slice (some ⟨w1.heap.size, 0, none⟩) 3 3] (w1.alloc (.cells #[.slice A n c, .slice (some ⟨B, 0, none⟩) 2 2, .slice (some ⟨B + 1, 0, none⟩) T.length cT] 32)) Q := by
  subst hB
  have hl := hA.len
  have hw0 : Below w.heap.size w w1 := ((Below.refl _ w).alloc (Nat.le_refl _) _).trans (h1.mono (by omega))
  have hk : Keeps (w.alloc (.cells #[.int .u8 (b0.toNat : Int), .int .u8 (b1.toNat : Int)] 5)) w1 := Keeps.of_below (by simpa using h1)
  refine Calls.mono (concat_any _ _ _ [l, [b0, b1], T] _ (Ps.lit3 _ rfl ((hA.alloc _).keep hk) hc hc2 ((Bs.lit _ rfl [b0, b1] rfl rfl).keep hk) (by omega) (by omega) hT hcT hcT2) (by omega) (by simp; omega)) ?_
  rintro e w2 ⟨v2, rfl, hown, hb⟩
  have e2 : [l, [b0, b1], T].flatten = l ++ ([b0, b1] ++ T) := by simp
  have e3 : [l, [b0, b1], T].flatten.length = n + 2 + T.length := by simp [hl]; omega
  rw [e3, e2] at hown
  have hs := hw0.size
  exact h _ _ (ownsRow_base hown (by simp; omega)) (below_then (hw0.alloc hs _) hb (by simp; omega))

end Go.Proofs.Ytkncomkncfcecaa
set_option linter.unusedVariables false
set_option linter.unusedSimpArgs false
namespace Go.Proofs.Ytkncomkncfcecaa
open Go.RowKit

theorem away_none (g : Nat) : Away g none := fun a e => by cases e
theorem Away.from_ {g : Nat} {A : Option Addr} (h : Away g A) (cap k : Nat) : Away g (if cap = k then A else A.map (·.add k)) := by
  split
  · exact h
  · intro b e
    cases A with
    | none => cases e
    | some a =>
      simp only [Option.map_some, Option.some.injEq] at e
      subst e
      rw [block_add]
      exact h _ rfl

theorem InQ.from_ {Q : Nat → Prop} {A : Option Addr} (h : InQ Q A) (cap k : Nat) : InQ Q (if cap = k then A else A.map (·.add k)) := by
  split
  · exact h
  · intro b e
    cases A with
    | none => cases e
    | some a =>
      simp only [Option.map_some, Option.some.injEq] at e
      subst e
      rw [block_add]
      exact h _ rfl
/-- the reader at block g, its bytes in a block of Q: the bytes that are left, the first error -/
def CRP (Q : Nat → Prop) (W : World) (g : Nat) (l : List UInt8) (e : Int) : Prop :=
  ∃ A n c, W.heap[g]? = some (.cells #[.slice A n c, .int .i64 e] 124 (0, 0)) ∧ Bs W A n l ∧ n ≤ c ∧ c ≤ 9223372036854775807 ∧ InQ Q A
def CR (W : World) (g : Nat) (l : List UInt8) (e : Int) : Prop := CRP (fun b => b ≠ g) W g l e

/-- what is taken, what is left, the error behind it -/
def taken (l : List UInt8) (e : Int) (k : Nat) : List UInt8 × List UInt8 × Int :=
  if e = 0 ∧ l.length < k then ([], l, 8) else if e ≠ 0 then ([], l, e) else (l.take k, l.drop k, 0)

set_option maxRecDepth 100000 in
theorem take_Q (Q : Nat → Prop) (g : Nat) (hQ : ∀ b, Q b → b ≠ g) (l : List UInt8) (e : Int) (k : Nat) (w : World) (h : CRP Q w g l e) (hk : k ≤ 1099511627776) :
    Calls Try.prog 104 #[.pointer (some ⟨g, 0, none⟩), .int .i64 k] w fun r w' => ∃ A n c, r = .returned (.slice A n c) ∧ Bs w' A n (taken l e k).1 ∧ n ≤ c ∧ c ≤ 9223372036854775807 ∧ InQ Q A ∧
      CRP Q w' g (taken l e k).2.1 (taken l e k).2.2 ∧ w.grownBy w' (some g) := by
  obtain ⟨A, n, c, hg, hB, hn, hc, ha⟩ := h
  have hl := hB.len
  have c0 : w.cell? ⟨g, 0, none⟩ = some (.slice A n c) := cell_of_block hg rfl
  have c1 : w.cell? ⟨g, 1, none⟩ = some (.int .i64 e) := cell_of_block hg rfl
  have f0 : w.frozen? ⟨g, 0, none⟩ = false := free_of_block hg
  have f1 : w.frozen? ⟨g, 1, none⟩ = false := free_of_block hg
  have HG := Lib.hid hg
  clear hg
  by_cases h0 : e = 0
  · subst h0
    by_cases hlt : n < k
    · have ht : taken l 0 k = ([], l, 8) := by unfold taken; rw [if_pos ⟨rfl, by omega⟩]
      have HT := Lib.hid ht
      have HL := Lib.hid hl
      have hlt' : (n : Int) < k := by omega
      clear ht hl
      go_enter Try.func104, Try.ntmps104
      go_wp2_with fail
      go_ret
      rw [HT.out]
      have h2 := block_setCell (i := 1) (.int .i64 8) HG.out
      exact ⟨_, _, _, rfl, Bs.nil _ _, Nat.le_refl _, by omega, inQ_none Q, ⟨A, n, c, h2, hB.grownKeep (grown_set _ _ _ _) (ha.away hQ), hn, hc, ha⟩, grown_set _ _ _ _⟩
    · have ht : taken l 0 k = (l.take k, l.drop k, 0) := by unfold taken; rw [if_neg (by omega), if_neg (by simp)]
      have HT := Lib.hid ht
      have HL := Lib.hid hl
      have hlt' : ¬ (n : Int) < k := by omega
      have hk1 : (k : Int) ≤ n := by omega
      have hk2 : (k : Int) ≤ c := by omega
      have hk0 : (0 : Int) ≤ k := by omega
      clear ht hl
      go_enter Try.func104, Try.ntmps104
      go_wp2_with fail
      all_goals
        go_ret
        rw [HT.out]
        have hl := HL.out
        have h1 := hB.to_ (k := k) (by omega)
        have h2 := hB.from_ (k := k) (by omega) hn
        have h3 := ha.from_ c k
        first
          | (have hck' : c = k := h; rw [if_pos hck'] at h2 h3)
          | (have hck' : ¬ c = k := h; rw [if_neg hck'] at h2 h3)
        refine ⟨_, _, _, rfl, h1.grownKeep (grown_set _ _ _ _) (ha.away hQ), by omega, by omega, ha, ⟨_, _, _, block_setCell (i := 0) _ HG.out, h2.grownKeep (grown_set _ _ _ _) (h3.away hQ), by omega, by omega, h3⟩, grown_set _ _ _ _⟩
  · have ht : taken l e k = ([], l, e) := by unfold taken; rw [if_neg (by omega), if_pos h0]
    have HT := Lib.hid ht
    have HL := Lib.hid hl
    have he : (e == 0) = false := by rw [beq_eq_false_iff_ne]; exact h0
    have he2 : (e != 0) = true := by rw [bne_iff_ne]; exact h0
    clear ht hl
    go_enter Try.func104, Try.ntmps104
    go_wp2_with fail
    go_ret
    rw [HT.out]
    exact ⟨_, _, _, rfl, Bs.nil _ _, Nat.le_refl _, by omega, inQ_none Q, ⟨A, n, c, HG.out, hB, hn, hc, ha⟩, grown_refl _ _⟩

theorem taken_len (l : List UInt8) (e : Int) (k : Nat) : (taken l e k).1.length ≤ k := by
  unfold taken
  split
  · simp
  · split
    · simp
    · simp; omega

set_option maxRecDepth 100000 in
theorem number_Q (Q : Nat → Prop) (g : Nat) (hQ : ∀ b, Q b → b ≠ g) (l : List UInt8) (e : Int) (k : Nat) (w : World) (h : CRP Q w g l e) (hk : k ≤ 8) :
    Calls Try.prog 97 #[.pointer (some ⟨g, 0, none⟩), .int .i64 k] w fun r w' => r = .returned (.int .i64 (wrap64 (leN (taken l e k).1 : Int))) ∧
      CRP Q w' g (taken l e k).2.1 (taken l e k).2.2 ∧ w.grownBy w' (some g) := by
  have hlen := taken_len l e k
  go_enter Try.func97, Try.ntmps97
  go_wp2_with (go_at_call 104; refine Calls.mono (take_Q Q g hQ l e k _ h (by omega)) ?_; rintro r w1 ⟨A, n, c, rfl, hB, hn, hc, ha, hcr, hgr⟩)
  generalize ht0 : (taken l e k).1 = t at hB hlen
  have HT0 := Lib.hid ht0
  clear ht0
  have hl := hB.len
  have HL := Lib.hid hl
  clear hl
  go_loop [5, 6, 7, 12] (fun u _ _ i => ∃ (j : Nat) (s : Nat), j ≤ n ∧ i = .int .i64 j ∧ u = .int .u64 s ∧ Hid (s = leN (t.take j))) (fun _ _ _ i => n - (intOf i).toNat)
  case atStart => exact ⟨0, 0, Nat.zero_le _, rfl, rfl, rfl⟩
  case round =>
    obtain ⟨j, s, hj, rfl, rfl, hs⟩ := hrel
    have hn8 : n ≤ 8 := by rw [← HL.out]; omega
    by_cases hlt : j < n
    · have hjn : (j : Int) < n := by omega
      have hj0 : (0 : Int) ≤ j := by omega
      have hj8 : (j : Int) < 8 := by omega
      obtain ⟨b, o, x, rfl, hcell, ht, hx⟩ := hB.next hlt
      have hs1 : leN (t.take (j + 1)) = s + x.toNat * 2 ^ (8 * j) := by
        have hjl : (t.take j).length = j := by rw [List.length_take, HL.out]; omega
        rw [ht.out, leN_append, leN_one, hjl, ← hs.out, Nat.mul_comm, Nat.pow_mul]
      have hs2 : s < 2 ^ (8 * j) := by
        have hjl : (t.take j).length = j := by rw [List.length_take, HL.out]; omega
        have := leN_lt (t.take j)
        rw [hjl, ← hs.out] at this
        rw [Nat.pow_mul]; exact this
      have hs3 : x.toNat * 2 ^ (8 * j) + s < 18446744073709551616 := by
        have h1 := leN_lt (t.take (j + 1))
        have hjl : (t.take (j + 1)).length = j + 1 := by rw [List.length_take, HL.out]; omega
        rw [hjl, hs1] at h1
        have h2 : 256 ^ (j + 1) ≤ 256 ^ 8 := Nat.pow_le_pow_right (by omega) (by omega)
        have h3 : 256 ^ 8 = 18446744073709551616 := by decide
        omega
      have hor := u64_or_join s x.toNat (8 * j) hs2 hs3
      have HS := Lib.hid hs1
      have HO := Lib.hid hor
      clear hs1 hor
      have hxl := byte_lt x
      go_wp2_with fail
      refine ⟨⟨j + 1, s + x.toNat * 2 ^ (8 * j), by omega, by go_num, ?_, HS.out.symm⟩, by simp [intOf]; omega⟩
      have e3 : ((x.toNat : Int) * 2 ^ (8 * j)) = ((x.toNat * 2 ^ (8 * j) : Nat) : Int) := by rw [Int.natCast_mul, Int.natCast_pow]; rfl
      rw [e3, IntWalk.u64_in _ (by generalize x.toNat * 2 ^ (8 * j) = y at hs3; omega), HO.out]
    · obtain rfl : j = n := by omega
      have e1 : leN (t.take j) = leN t := by rw [List.take_of_length_le (by rw [HL.out]; omega)]
      rw [e1] at hs
      go_wp2_with fail
      go_ret
      exact ⟨by rw [HT0.out, ← hs.out]; rfl, hcr, hgr⟩

theorem readInt_Q (Q : Nat → Prop) (g : Nat) (hQ : ∀ b, Q b → b ≠ g) (l : List UInt8) (e : Int) (w : World) (h : CRP Q w g l e) :
    Calls Try.prog 76 #[.pointer (some ⟨g, 0, none⟩)] w fun r w' => r = .returned (.int .i64 (wrap64 (leN (taken l e 8).1 : Int))) ∧
      CRP Q w' g (taken l e 8).2.1 (taken l e 8).2.2 ∧ w.grownBy w' (some g) := by
  obtain ⟨A, n, c, hg, _⟩ := id h
  have c0 : w.cell? ⟨g, 0, none⟩ = some (.slice A n c) := cell_of_block hg rfl
  clear hg
  go_enter Try.func76, Try.ntmps76
  go_wp2_with (go_at_call 97; refine Calls.mono (number_Q Q g hQ l e 8 _ h (by omega)) ?_; rintro r w1 ⟨rfl, hcr, hgr⟩)
  go_ret
  exact ⟨rfl, hcr, hgr⟩
theorem readByte_Q (Q : Nat → Prop) (g : Nat) (hQ : ∀ b, Q b → b ≠ g) (l : List UInt8) (e : Int) (w : World) (h : CRP Q w g l e) :
    Calls Try.prog 77 #[.pointer (some ⟨g, 0, none⟩)] w fun r w' => r = .returned (.int .i64 (leN (taken l e 1).1 : Int)) ∧
      CRP Q w' g (taken l e 1).2.1 (taken l e 1).2.2 ∧ w.grownBy w' (some g) := by
  have hle : leN (taken l e 1).1 < 256 := by
    have h1 := leN_lt (taken l e 1).1
    have h2 := taken_len l e 1
    have h3 : 256 ^ (taken l e 1).1.length ≤ 256 ^ 1 := Nat.pow_le_pow_right (by omega) h2
    omega
  have hw : wrap64 (leN (taken l e 1).1 : Int) = leN (taken l e 1).1 := by unfold wrap64; omega
  have HW := Lib.hid hw
  clear hw
  go_enter Try.func77, Try.ntmps77
  go_wp2_with (go_at_call 97; refine Calls.mono (number_Q Q g hQ l e 1 _ h (by omega)) ?_; rintro r w1 ⟨rfl, hcr, hgr⟩; rw [HW.out])
  go_ret
  exact ⟨rfl, hcr, hgr⟩

/-- what is read as a text -/
def textOf (l : List UInt8) (e : Int) : List UInt8 × List UInt8 × Int :=
  taken (taken l e 2).2.1 (taken l e 2).2.2 (leN (taken l e 2).1)
/-- what the end tells -/
def ended (l : List UInt8) (e : Int) : Int := if e = 0 ∧ 0 < l.length then 9 else e
theorem end_Q (Q : Nat → Prop) (g : Nat) (hQ : ∀ b, Q b → b ≠ g) (l : List UInt8) (e : Int) (w : World) (h : CRP Q w g l e) :
    Calls Try.prog 78 #[.pointer (some ⟨g, 0, none⟩)] w fun r w' => r = .returned (.int .i64 (ended l e)) ∧ w = w' := by
  obtain ⟨A, n, c, hg, hB, hn, hc, ha⟩ := h
  have c0 : w.cell? ⟨g, 0, none⟩ = some (.slice A n c) := cell_of_block hg rfl
  have c1 : w.cell? ⟨g, 1, none⟩ = some (.int .i64 e) := cell_of_block hg rfl
  clear hg
  have hl := hB.len
  have HL := Lib.hid hl
  clear hl
  by_cases h0 : e = 0
  · subst h0
    by_cases hn0 : 0 < n
    · have h1 : ended l 0 = 9 := by unfold ended; rw [if_pos ⟨rfl, by rw [HL.out]; exact hn0⟩]
      have h2 : (0 : Int) < n := by omega
      rw [h1]
      clear h1
      go_enter Try.func78, Try.ntmps78
      go_wp2_with fail
      go_ret
      exact ⟨rfl, rfl⟩
    · have h1 : ended l 0 = 0 := by unfold ended; rw [if_neg (by rw [HL.out]; omega)]
      have h2 : ¬ (0 : Int) < n := by omega
      rw [h1]
      clear h1
      go_enter Try.func78, Try.ntmps78
      go_wp2_with fail
      go_ret
      exact ⟨rfl, rfl⟩
  · have he : (e == 0) = false := by rw [beq_eq_false_iff_ne]; exact h0
    have h1 : ended l e = e := by unfold ended; rw [if_neg (by omega)]
    rw [h1]
    clear h1
    go_enter Try.func78, Try.ntmps78
    go_wp2_with fail
    go_ret
    exact ⟨rfl, rfl⟩


/-! ### the reader's bytes lie elsewhere than its own block -/
theorem readInt_any (g : Nat) (l : List UInt8) (e : Int) (w : World) (h : CR w g l e) :
    Calls Try.prog 76 #[.pointer (some ⟨g, 0, none⟩)] w fun r w' => r = .returned (.int .i64 (wrap64 (leN (taken l e 8).1 : Int))) ∧
      CR w' g (taken l e 8).2.1 (taken l e 8).2.2 ∧ w.grownBy w' (some g) := readInt_Q (fun b => b ≠ g) g (fun _ h => h) l e w h
theorem readByte_any (g : Nat) (l : List UInt8) (e : Int) (w : World) (h : CR w g l e) :
    Calls Try.prog 77 #[.pointer (some ⟨g, 0, none⟩)] w fun r w' => r = .returned (.int .i64 (leN (taken l e 1).1 : Int)) ∧
      CR w' g (taken l e 1).2.1 (taken l e 1).2.2 ∧ w.grownBy w' (some g) := readByte_Q (fun b => b ≠ g) g (fun _ h => h) l e w h
theorem end_any (g : Nat) (l : List UInt8) (e : Int) (w : World) (h : CR w g l e) :
    Calls Try.prog 78 #[.pointer (some ⟨g, 0, none⟩)] w fun r w' => r = .returned (.int .i64 (ended l e)) ∧ w = w' := end_Q (fun b => b ≠ g) g (fun _ h => h) l e w h

theorem new_Q (A : Option Addr) (n c : Nat) (l : List UInt8) (w : World) (hA : Bs w A n l) (hn : n ≤ 140737488355328) :
    Calls Try.prog 75 #[.slice A n c] w fun r w' => ∃ g, r = .returned (.pointer (some ⟨g, 0, none⟩)) ∧ w.heap.size ≤ g ∧ g < w'.heap.size ∧ CRP (fun b => b < g) w' g l 0 ∧ Below w.heap.size w w' := by
  go_enter Try.func75, Try.ntmps75
  go_wp2_with (go_at_call 82; refine Calls.mono (clone_any _ _ _ l _ hA hn) ?_; rintro r w1 ⟨v1, rfl, hown1, hb1⟩; obtain ⟨B, d, rfl, q1, q2, q3, _⟩ := own_slice hown1)
  go_ret
  refine ⟨_, rfl, hb1.size, by simp, ⟨B, n, d, heap_at_new _ _ rfl, Bs.alloc q3 _, q1, by simpa [maxLen] using q2, fun a e => ?_⟩, hb1.alloc hb1.size _⟩
  subst e
  have hlt : a.block < w1.heap.size := by
    obtain ⟨g, _, _, hv, h1, h2⟩ : ∃ g c' cur, (some a : Option Addr) = some ⟨g, 0, none⟩ ∧ w1.heap[g]? = some (.cells cur 5 (0, 0)) ∧ c' = c' := by
      rcases hown1.2 with ⟨h, _⟩ | ⟨g, cap, cur, hv, _, hh, _⟩
      · cases h
      · injection hv with hv _ _
        exact ⟨g, cap, cur, hv, hh, rfl⟩
    injection hv with hv
    subst hv
    exact (Array.getElem?_eq_some_iff.1 h1).1
  exact hlt
theorem CRP.weak {Q Q' : Nat → Prop} {W : World} {g : Nat} {l : List UInt8} {e : Int} (h : CRP Q W g l e) (hq : ∀ b, Q b → Q' b) : CRP Q' W g l e := by
  obtain ⟨A, n, c, hg, hB, hn, hc, ha⟩ := h
  exact ⟨A, n, c, hg, hB, hn, hc, fun a e => hq _ (ha a e)⟩
theorem rdrNew_any (A : Option Addr) (n c : Nat) (l : List UInt8) (w : World) (hA : Bs w A n l) (hn : n ≤ 140737488355328) :
    Calls Try.prog 75 #[.slice A n c] w fun r w' => ∃ g, r = .returned (.pointer (some ⟨g, 0, none⟩)) ∧ w.heap.size ≤ g ∧ g < w'.heap.size ∧ CR w' g l 0 ∧ Below w.heap.size w w' :=
  Calls.mono (new_Q A n c l w hA hn) fun _ _ ⟨g, h1, h2, h3, h4, h5⟩ => ⟨g, h1, h2, h3, h4.weak fun b hb => Nat.ne_of_lt hb, h5⟩

theorem CRP.below {Q : Nat → Prop} {W W' : World} {g : Nat} {l : List UInt8} {e : Int} (h : CRP Q W g l e) (hb : Below W.heap.size W W') : CRP Q W' g l e := by
  obtain ⟨A, n, c, hg, hB, hn, hc, ha⟩ := h
  exact ⟨A, n, c, by rw [hb.block g (Array.getElem?_eq_some_iff.1 hg).1]; exact hg, hB.below hb, hn, hc, ha⟩
/-- another block was written -/
theorem CRP.other {Q : Nat → Prop} {W W' : World} {g g2 : Nat} {l : List UInt8} {e : Int} (h : CRP Q W g l e) (hg2 : W.grownBy W' (some g2)) (hne : g ≠ g2) (hQ : ∀ b, Q b → b ≠ g2) : CRP Q W' g l e := by
  obtain ⟨A, n, c, hg, hB, hn, hc, ha⟩ := h
  refine ⟨A, n, c, ?_, hB.grownKeep hg2 (ha.away hQ), hn, hc, ha⟩
  rw [hg2.block g (Array.getElem?_eq_some_iff.1 hg).1 (fun h => hne (by injection h))]
  exact hg
theorem CR.below {W W' : World} {g : Nat} {l : List UInt8} {e : Int} (h : CR W g l e) (hb : Below W.heap.size W W') : CR W' g l e := by
  obtain ⟨A, n, c, hg, hB, hn, hc, ha⟩ := h
  exact ⟨A, n, c, by rw [hb.block g (Array.getElem?_eq_some_iff.1 hg).1]; exact hg, hB.below hb, hn, hc, ha⟩
theorem taken_bad (l : List UInt8) {e : Int} (k : Nat) (he : e ≠ 0) : taken l e k = ([], l, e) := by
  unfold taken; rw [if_neg (by omega), if_pos he]
theorem textOf_bad (l : List UInt8) {e : Int} (he : e ≠ 0) : textOf l e = ([], l, e) := by
  unfold textOf; rw [taken_bad l 2 he]; exact taken_bad l _ he
theorem readInt_bad (g : Nat) (l : List UInt8) (e : Int) (w : World) (h : CR w g l e) (he : e ≠ 0) :
    Calls Try.prog 76 #[.pointer (some ⟨g, 0, none⟩)] w fun r w' => r = .returned (.int .i64 0) ∧ CR w' g l e ∧ w.grownBy w' (some g) := by
  have := readInt_any g l e w h
  rw [taken_bad l 8 he] at this
  dsimp only at this
  rw [show wrap64 ((leN [] : Nat) : Int) = 0 by simp [wrap64, leN]] at this
  exact this
theorem readByte_bad (g : Nat) (l : List UInt8) (e : Int) (w : World) (h : CR w g l e) (he : e ≠ 0) :
    Calls Try.prog 77 #[.pointer (some ⟨g, 0, none⟩)] w fun r w' => r = .returned (.int .i64 0) ∧ CR w' g l e ∧ w.grownBy w' (some g) := by
  have := readByte_any g l e w h
  rw [taken_bad l 1 he] at this
  exact this
theorem end_bad (g : Nat) (l : List UInt8) (e : Int) (w : World) (h : CR w g l e) (he : e ≠ 0) :
    Calls Try.prog 78 #[.pointer (some ⟨g, 0, none⟩)] w fun r w' => r = .returned (.int .i64 e) ∧ w = w' := by
  have := end_any g l e w h
  rw [show ended l e = e by unfold ended; rw [if_neg (by omega)]] at this
  exact this
end Go.Proofs.Ytkncomkncfcecaa
