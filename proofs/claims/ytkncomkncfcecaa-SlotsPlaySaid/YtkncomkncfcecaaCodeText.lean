/- append onto a row of one's own, the elder handle kept: in place, or all that was stays. No program in sight but for the byte's type. Numbers and texts as bytes: plain. code.Int, code.Byte, code.Text and the document's: what each returns. code.Text and the document's: what each returns. -/
import Derived.Test.YtkncomkncfcecaaFlashMem
import Derived.Maps.AppendAt
import Derived.Lib.AppendStr
import Derived.Test.YtkncomkncfcecaaLib
import Derived.Test.YtkncomkncfcecaaChecked
import Derived.Test.YtkncomkncfcecaaConcat
import Derived.Lib.ConvBytes
set_option linter.unusedVariables false
set_option linter.unusedSimpArgs false
namespace Go.Proofs.Ytkncomkncfcecaa
open Go.RowKit
section
variable {P : Program} (w : World)
theorem run_append_K (base : Nat) (t ty e : TypeId) (i : TypeInfo) (z : Value) (bytes : Nat) (ht : P.underlying t = some (.slice e)) (hi : P.info? e = some i) (hz : i.zero = some z)
    (hsize : i.size = 1) (hby : i.bytes = bytes) (hzs : z.cells.size = 1)
    (v : Value) (n : Nat) (xs : List Value) (hown : w.ownsRow base e 1 v n xs)
    (A : Option Addr) (m c : Nat) (news : List Value) (hr : Vs w A m news) (h1 : ∀ u ∈ news, u.oneCell' = true)
    (hbytes : (n + m) * bytes ≤ 140737488355328) (h63 : n + m ≤ maxLen) (hbase : base ≤ w.heap.size) :
    ∃ v' w', (Builtin.append_ #[t, t] ty #[v, .slice A m c]).run P w = .ok v' w' ∧ w'.ownsRow base e 1 v' (n + m) (xs ++ news) ∧ w.grownBy w' v.ownBlock ∧
      (v'.ownBlock = v.ownBlock ∨ v'.ownBlock = some w.heap.size) ∧
      ((∃ g cap, v = .slice (some ⟨g, 0, none⟩) n cap ∧ v' = .slice (some ⟨g, 0, none⟩) (n + m) cap) ∨ (Below w.heap.size w w' ∧ (v'.ownBlock = none ∨ v'.ownBlock = some w.heap.size))) := by
  obtain ⟨v', w', hrun, h2, h3, h4⟩ := run_append_V (P := P) w base t ty e i z bytes ht hi hz hsize hby hzs v n xs hown A m c news hr h1 hbytes h63 hbase
  refine ⟨v', w', hrun, h2, h3, h4, ?_⟩
  rcases A with _ | ad
  · have hm : m = 0 := by
      rcases Nat.eq_zero_or_pos m with h0 | h0
      · exact h0
      · obtain ⟨_, _, h, _⟩ := hr.2 h0; cases h
    subst hm
    rw [Vn w base t ty e i 1 ht hi v n xs hown c] at hrun
    injection hrun with e1 e2
    subst e1; subst e2
    rcases hown.2 with ⟨rfl, rfl⟩ | ⟨g, cap, cur, rfl, _⟩
    · exact .inr ⟨Below.refl _ _, .inl rfl⟩
    · exact .inl ⟨g, cap, rfl, rfl⟩
  · have hcells : ∀ j u, news[j]? = some u → w.cell? (ad.add j) = some u := fun j u hu => by
      have hk : j < news.length := (List.getElem?_eq_some_iff.1 hu).1
      obtain ⟨b, o, e, hc⟩ := hr.2 (by rw [← hr.1]; omega)
      injection e with e; subst e
      rw [Addr.add_lit]; exact hc j u hu
    have hnew : ∀ cs, Below w.heap.size w (w.drew.alloc (.cells cs e)) := fun cs => ((Below.refl _ w).drew).alloc (Nat.le_refl _) _
    rcases hown.2 with ⟨rfl, rfl⟩ | ⟨g, cap, cur, rfl, hbg, hg, hnc, hcm, hcs, htake⟩
    · have : w.grownBy w' none := h3
      exact .inr ⟨⟨this.os, this.tape, this.output, this.size, fun i hi => this.block i hi (by simp)⟩, h4⟩
    · by_cases hroom : n + m ≤ cap
      · have hfit : n * i.size + news.length ≤ cur.size := by rw [hsize, hcs, hr.1, Nat.mul_one, Nat.mul_one]; exact hroom
        have hrr := run_append_room (P := P) (w := w) t ty e i ht hi g n cap cur hg ad m c news (by rw [hsize, Nat.mul_one]; exact hr.1) hcells h1 hroom hfit
        rw [hrr] at hrun
        injection hrun with e1 e2
        exact .inl ⟨g, cap, rfl, e1.symm⟩
      · have holds : ∀ j u, xs[j]? = some u → w.cell? ((⟨g, 0, none⟩ : Addr).add j) = some u := hown.cells (g := g) rfl
        have hrr := run_append_grow (P := P) (w := w) t ty e i z ht hi hz ⟨g, 0, none⟩ n cap xs (by rw [hsize]; exact hown.1) holds ad m c news (by rw [hsize, Nat.mul_one]; exact hr.1) hcells (by omega) (by simp only [maxLen] at h63; omega) (growslice_fits (by omega) (by rw [hby]; exact hbytes))
        rw [hrr] at hrun
        injection hrun with e1 e2
        subst e1; subst e2
        exact .inr ⟨hnew _, .inr rfl⟩
structure Onto (w wr : World) (base : Nat) (e : TypeId) (v0 : Value) (n : Nat) (xs : List Value) (v : Value) (N : Nat) (ys : List Value) : Prop where
  now : wr.ownsRow base e 1 v N ys
  was : wr.ownsRow base e 1 v0 n xs
  front : n ≤ N ∧ ys.take n = xs
  grown : w.grownBy wr v0.ownBlock
  old : ∀ b, v0.ownBlock = some b → b < w.heap.size
  form : (∃ g cap, v0 = .slice (some ⟨g, 0, none⟩) n cap ∧ v = .slice (some ⟨g, 0, none⟩) N cap) ∨ ∀ b, v.ownBlock = some b → w.heap.size ≤ b
theorem own_front {W : World} {base : Nat} {e : TypeId} {g cap n N : Nat} {xs ys : List Value} (h : W.ownsRow base e 1 (.slice (some ⟨g, 0, none⟩) N cap) N ys) (hn : n ≤ N) (hx : ys.take n = xs) :
    W.ownsRow base e 1 (.slice (some ⟨g, 0, none⟩) n cap) n xs := by
  have hl := h.1
  refine ⟨by rw [← hx, List.length_take, hl]; omega, .inr ?_⟩
  rcases h.2 with ⟨hv, _⟩ | ⟨g', cap', cur, hv, hb, hg, h1, h2, h3, h4⟩
  · cases hv
  · injection hv with e1 e2 e3
    injection e1 with e1
    injection e1 with e1 _ _
    subst e1; subst e3
    refine ⟨g, cap, cur, rfl, hb, hg, by omega, h2, h3, ?_⟩
    rw [← hx, ← h4, List.take_take]
    congr 1
    omega
variable {w}
theorem Onto.start {base : Nat} {e : TypeId} {v0 : Value} {n : Nat} {xs : List Value} (h : w.ownsRow base e 1 v0 n xs) : Onto w w base e v0 n xs v0 n xs := by
  refine ⟨h, h, ⟨Nat.le_refl _, List.take_of_length_le (by rw [h.1]; omega)⟩, ⟨rfl, rfl, rfl, Nat.le_refl _, fun _ _ _ => rfl⟩, fun b hb => (h.lt b hb).2, ?_⟩
  rcases h.2 with ⟨rfl, rfl⟩ | ⟨g, cap, cur, rfl, _⟩
  · exact .inr fun b hb => by simp [Value.ownBlock] at hb
  · exact .inl ⟨g, cap, rfl, rfl⟩
theorem Onto.below {wr wr' : World} {base : Nat} {e : TypeId} {v0 v : Value} {n N : Nat} {xs ys : List Value} (h : Onto w wr base e v0 n xs v N ys) (hb : Below wr.heap.size wr wr') : Onto w wr' base e v0 n xs v N ys := by
  refine ⟨Yx h.now hb, Yx h.was hb, h.front, ⟨hb.os.trans h.grown.os, hb.tape.trans h.grown.tape, hb.output.trans h.grown.output, Nat.le_trans h.grown.size hb.size, fun i hi hne => ?_⟩, h.old, h.form⟩
  rw [hb.block i (Nat.lt_of_lt_of_le hi h.grown.size)]
  exact h.grown.block i hi hne
theorem Onto.step {wr w' : World} {base : Nat} {e : TypeId} {v0 v v' : Value} {n N m : Nat} {xs ys news : List Value} (h : Onto w wr base e v0 n xs v N ys)
    (h2 : w'.ownsRow base e 1 v' (N + m) (ys ++ news)) (h3 : wr.grownBy w' v.ownBlock)
    (h5 : (∃ g cap, v = .slice (some ⟨g, 0, none⟩) N cap ∧ v' = .slice (some ⟨g, 0, none⟩) (N + m) cap) ∨ (Below wr.heap.size wr w' ∧ (v'.ownBlock = none ∨ v'.ownBlock = some wr.heap.size))) : Onto w w' base e v0 n xs v' (N + m) (ys ++ news) := by
  have hyl : ys.length = N := by simpa using h.now.1
  have hfr : n ≤ N + m ∧ (ys ++ news).take n = xs := by
    refine ⟨by have := h.front.1; omega, ?_⟩
    rw [List.take_append_of_le_length (by rw [hyl]; exact h.front.1)]
    exact h.front.2
  rcases h5 with ⟨g, cap, rfl, rfl⟩ | ⟨hb, hv'⟩
  · have h3 : wr.grownBy w' (some g) := h3
    rcases h.form with ⟨g', cap', e1, e2⟩ | hf
    · subst e1
      injection e2 with e2 _ e3; injection e2 with e2; injection e2 with e2 _ _
      subst e2; subst e3
      have hg0 : w.grownBy wr (some g) := h.grown
      refine ⟨h2, own_front h2 hfr.1 hfr.2, hfr, ?_, h.old, .inl ⟨g, cap, rfl, rfl⟩⟩
      exact ⟨h3.os.trans hg0.os, h3.tape.trans hg0.tape, h3.output.trans hg0.output, Nat.le_trans hg0.size h3.size, fun i hi hne => (h3.block i (Nat.lt_of_lt_of_le hi hg0.size) hne).trans (hg0.block i hi hne)⟩
    · have hgw : w.heap.size ≤ g := hf g rfl
      refine ⟨h2, h.was.kept h3 ?_, hfr, ?_, h.old, .inr fun b hb => hf b hb⟩
      · cases hv : v0.ownBlock with
        | none => exact .inl rfl
        | some b =>
          have := h.old b hv
          refine .inr fun he => ?_
          injection he with he
          omega
      · refine ⟨h3.os.trans h.grown.os, h3.tape.trans h.grown.tape, h3.output.trans h.grown.output, Nat.le_trans h.grown.size h3.size, fun i hi hne => (h3.block i (Nat.lt_of_lt_of_le hi h.grown.size) ?_).trans (h.grown.block i hi hne)⟩
        intro he
        injection he with he
        omega
  · refine ⟨h2, Yx h.was hb, hfr, ?_, h.old, .inr fun b hb' => ?_⟩
    · exact ⟨hb.os.trans h.grown.os, hb.tape.trans h.grown.tape, hb.output.trans h.grown.output, Nat.le_trans h.grown.size hb.size, fun i hi hne => (hb.block i (Nat.lt_of_lt_of_le hi h.grown.size)).trans (h.grown.block i hi hne)⟩
    · rcases hv' with hv' | hv'
      · rw [hv'] at hb'; cases hb'
      · rw [hv'] at hb'
        injection hb' with hb'
        subst hb'
        exact h.grown.size
end
end Go.Proofs.Ytkncomkncfcecaa
set_option linter.unusedVariables false
set_option linter.unusedSimpArgs false
namespace Go.Proofs.Ytkncomkncfcecaa
def i64byte (x : Int) (k : Nat) : UInt8 := UInt8.ofNat ((x % 18446744073709551616).toNat / 256 ^ k)
theorem WN (x : Int) (k : Nat) : ((i64byte x k).toNat : Int) = x % 18446744073709551616 / 2 ^ (8 * k) % 256 := by
  unfold i64byte
  rw [UInt8.toNat_ofNat']
  have h0 : 0 ≤ x % 18446744073709551616 := Int.emod_nonneg _ (by decide)
  generalize x % 18446744073709551616 = y at h0
  obtain ⟨n, rfl⟩ := Int.eq_ofNat_of_zero_le h0
  have h2 : (2 : Int) ^ (8 * k) = ((256 ^ k : Nat) : Int) := by
    rw [Int.pow_mul, Int.natCast_pow]; rfl
  rw [h2, Int.toNat_natCast, ← Int.natCast_ediv]
  generalize n / 256 ^ k = q
  omega
def le8 (x : Int) : List UInt8 := (List.range 8).map (i64byte x)
theorem Xg (x : Int) : (le8 x).length = 8 := by simp [le8]
theorem le8_next (x : Int) (k : Nat) (hk : k < 8) : (le8 x).take (k + 1) = (le8 x).take k ++ [i64byte x k] := by
  rw [List.take_succ_eq_append_getElem (by rw [Xg]; exact hk)]
  simp [le8]
theorem le8_all (x : Int) : (le8 x).take 8 = le8 x := List.take_of_length_le (by rw [Xg]; exact Nat.le_refl _)
def txt (s : List UInt8) : List UInt8 := s.take 65535
def textBytes (s : List UInt8) : List UInt8 := [UInt8.ofNat (txt s).length, UInt8.ofNat ((txt s).length / 256)] ++ txt s
def leN (l : List UInt8) : Nat := l.foldr (fun x r => x.toNat + 256 * r) 0
theorem leN_append (a b : List UInt8) : leN (a ++ b) = leN a + 256 ^ a.length * leN b := by
  induction a with
  | nil => simp [leN]
  | cons x a ih =>
    have h1 : leN (x :: a ++ b) = x.toNat + 256 * leN (a ++ b) := rfl
    have h2 : leN (x :: a) = x.toNat + 256 * leN a := rfl
    rw [h1, h2, ih, List.length_cons, Nat.pow_succ, Nat.mul_add, ← Nat.mul_assoc, Nat.mul_comm 256 (256 ^ a.length), Nat.add_assoc]
theorem leN_lt (l : List UInt8) : leN l < 256 ^ l.length := by
  induction l with
  | nil => simp [leN]
  | cons x l ih =>
    have h2 : leN (x :: l) = x.toNat + 256 * leN l := rfl
    have := ZS x
    rw [h2, List.length_cons, Nat.pow_succ]
    omega
theorem leN_one (x : UInt8) : leN [x] = x.toNat := by simp [leN]
theorem u64_or_join (x y k : Nat) (hx : x < 2 ^ k) (hy : y * 2 ^ k + x < 18446744073709551616) : bits .or .u64 (x : Int) ((y * 2 ^ k : Nat) : Int) = ((x + y * 2 ^ k : Nat) : Int) := by
  have h : x ||| y * 2 ^ k = x + y * 2 ^ k := by
    rw [Nat.or_comm, nat_join k (y * 2 ^ k) x (Nat.mul_mod_left _ _) hx, Nat.add_comm]
  have o : ∀ a : Nat, a < 18446744073709551616 → (BitVec.ofInt 64 (a : Int)).toNat = a := fun a ha => by
    rw [BitVec.ofInt_natCast, BitVec.toNat_ofNat]; exact Nat.mod_eq_of_lt (by omega)
  show IntKind.u64.wrap ((BitVec.ofInt 64 (x : Int) ||| BitVec.ofInt 64 ((y * 2 ^ k : Nat) : Int)).toNat : Int) = _
  rw [BitVec.toNat_or, o x (by omega), o (y * 2 ^ k) (by omega), h, IntWalk.u64_in _ (by omega)]
end Go.Proofs.Ytkncomkncfcecaa
set_option linter.unusedVariables false
set_option linter.unusedSimpArgs false
namespace Go.Proofs.Ytkncomkncfcecaa
open Go.RowKit
theorem ontoB {wr : World} {ops : Array Oper} {rest : List Oper} {o : Oper} {a : Act} {Q : Exit → Act → World → Prop} (hgd : o.guard = none) (s x : Operand)
    (ho : o.op = .call { callee := .builtin .append, args := #[s, x], argTypes := #[32, 32] })
    {w : World} {base : Nat} {v0 v : Value} {n N : Nat} {l r : List UInt8} (hs : a.eval s = v) (h : Onto w wr base 5 v0 n (bv l) v N (bv r))
    (A : Option Addr) (m c : Nat) (k : List UInt8) (hx : a.eval x = .slice A m c) (hr : Bs wr A m k) (hb : N + m ≤ 70368744177664) (hbase : base ≤ wr.heap.size)
    (hK : ∀ v' w', Onto w w' base 5 v0 n (bv l) v' (N + m) (bv (r ++ k)) → wr.heap.size ≤ w'.heap.size → wpList Try.prog ops Q rest (a.put o.dst v') w') : wpList Try.prog ops Q (o :: rest) a wr := by
  obtain ⟨i0, hi0, hz0, hz1, hz2⟩ := info_parts byteInfo
  refine wpList_plain hgd fun K hKK => ?_
  obtain ⟨v', w', hrun, h2, h3, _, h5⟩ := run_append_K (P := Try.prog) wr base 32 o.type 5 i0 (.int .u8 0) 1 Try.underlying32 hi0 hz0 hz1 hz2 rfl v N (bv r) h.now A m c (bv k) hr (WH k) (by omega) (by simp only [maxLen]; omega) hbase
  unfold Oper.wp execOp
  simp only [ho, resolve, invoke, builtin, Sem.run_bind, Sem.run_pure, Result.andThen_ok, List.map_toArray, List.map_cons, List.map_nil, hs, hx, hrun]
  have := h.step h2 h3 h5
  rw [← X0] at this
  exact hKK _ _ (hK v' w' this h3.size)
set_option maxRecDepth 100000 in
theorem refInt_any (v0 : Value) (n : Nat) (l : List UInt8) (x : Int) (w : World) (base : Nat) (hown : w.ownsRow base 5 1 v0 n (bv l)) (hbase : base ≤ w.heap.size) (hn : n ≤ 1099511627776) (hx : -9223372036854775808 ≤ x ∧ x ≤ 9223372036854775807) :
    Calls Try.prog 71 #[v0, .int .i64 x] w fun e w' => ∃ v, e = .returned v ∧ Onto w w' base 5 v0 n (bv l) v (n + 8) (bv (l ++ le8 x)) := by
  go_enter Try.func71, Try.ntmps71
  go_wp2_with fail
  go_loopw [0, 5] (fun v i wr => ∃ (k : Nat), k ≤ 8 ∧ i = .int .i64 k ∧ Onto w wr base 5 v0 n (bv l) v (n + k) (bv (l ++ (le8 x).take k))) (fun _ i _ => 8 - (intOf i).toNat)
  case atStart => exact ⟨0, by omega, rfl, by simpa using Onto.start hown⟩
  case round =>
    obtain ⟨k, hk, rfl, h⟩ := hrel
    by_cases hlt : k < 8
    · have hk8 : (k : Int) < 8 := by omega
      have hk0 : (0 : Int) ≤ k := by omega
      have hbw := h.grown.size
      have e1 : IntKind.u64.wrap x / 2 ^ (8 * k) % 256 = ((i64byte x k).toNat : Int) := (WN x k).symm
      have e2 := le8_next x k hlt
      generalize i64byte x k = z at e1 e2
      have E2 := Lib.hid e2; clear e2
      go_wp2_with (at_builtin; refine ontoB rfl (.tmp 10) (.tmp 18) rfl rfl (h.below (.alloc (.refl _ _) (Nat.le_refl _) _)) _ _ _ [z] rfl (Bs.lit _ rfl [z] rfl rfl) (by omega) (by simp; omega) ?_; intro v2 w2 h2 hs2)
      go_roundw
      case rel => exact ⟨k + 1, by omega, by go_num, by rw [E2.out, ← List.append_assoc]; exact h2⟩
      case measure => simp [intOf]; omega
    · obtain rfl : k = 8 := by omega
      rw [le8_all] at h
      go_wp2_with fail
      go_ret
      exact ⟨_, rfl, h⟩
set_option maxRecDepth 100000 in
theorem codeInt_any (A : Option Addr) (n c : Nat) (l : List UInt8) (x : Int) (w : World) (hA : Bs w A n l) (hn : n ≤ 1099511627776) (hx : -9223372036854775808 ≤ x ∧ x ≤ 9223372036854775807) :
    Calls Try.prog 58 #[.slice A n c, .int .i64 x] w fun e w' => ∃ v, e = .returned v ∧ w'.ownsRow w.heap.size 5 1 v (n + 8) (bv (l ++ le8 x)) ∧ Below w.heap.size w w' := by
  go_enter Try.func58, Try.ntmps58
  go_wp2_with (go_at_call 82; refine Calls.mono (Wr _ _ _ l _ hA (by omega)) ?_; rintro e w1 ⟨v1, rfl, hown1, hb1⟩)
  go_loopw [5, 6, 9] (fun v _ i wr => ∃ (k : Nat), k ≤ 8 ∧ i = .int .i64 k ∧ wr.ownsRow w.heap.size 5 1 v (n + k) (bv (l ++ (le8 x).take k)) ∧ Below w.heap.size w wr) (fun _ _ i _ => 8 - (intOf i).toNat)
  case atStart => exact ⟨0, by omega, rfl, by simpa using hown1, hb1⟩
  case round =>
    obtain ⟨k, hk, rfl, hown, hbr⟩ := hrel
    by_cases hlt : k < 8
    · have hk8 : (k : Int) < 8 := by omega
      have hk0 : (0 : Int) ≤ k := by omega
      have hbw := hbr.size
      have e1 : IntKind.u64.wrap x / 2 ^ (8 * k) % 256 = ((i64byte x k).toNat : Int) := (WN x k).symm
      have e2 := le8_next x k hlt
      generalize i64byte x k = z at e1 e2
      have E2 := Lib.hid e2; clear e2
      go_wp2_with (at_builtin; refine appendB _ rfl (.tmp 12) (.tmp 19) rfl w.heap.size _ _ _ rfl (Yx hown (.alloc (.refl _ _) (Nat.le_refl _) _)) _ _ _ [z] rfl (Bs.lit _ rfl [z] rfl rfl) (by omega) (by simp; omega) ?_; intro v2 w2 hown2 hg2 hat2)
      go_roundw
      case rel => exact ⟨k + 1, by omega, by go_num, by rw [E2.out, ← List.append_assoc]; exact hown2, Yq (hbr.alloc hbr.size _) hg2 (Yx hown (.alloc (.refl _ _) (Nat.le_refl _) _)) (by simp; omega)⟩
      case measure => simp [intOf]; omega
    · obtain rfl : k = 8 := by omega
      rw [le8_all] at hown
      obtain ⟨B, c2, rfl, q1, q2, q3, _⟩ := ZP hown
      go_wp2_with (go_at_call 82; refine Calls.mono (Wr _ _ _ (l ++ le8 x) _ q3 (by omega)) ?_; rintro e w3 ⟨v3, rfl, hown3, hb3⟩)
      go_ret
      exact ⟨_, rfl, YP hown3 hbr.size, Z1 hbr hb3 hbr.size⟩
end Go.Proofs.Ytkncomkncfcecaa
set_option linter.unusedVariables false
set_option linter.unusedSimpArgs false
namespace Go.Proofs.Ytkncomkncfcecaa
open Go.RowKit
end Go.Proofs.Ytkncomkncfcecaa
