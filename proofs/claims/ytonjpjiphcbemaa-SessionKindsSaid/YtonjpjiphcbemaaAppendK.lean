/- append onto a row of one's own, the elder handle kept: in place, or all that was stays. No program in sight but for the byte's type. -/
import Derived.Test.YtonjpjiphcbemaaKnApp
import Derived.Maps.AppendAt
import Derived.Lib.AppendStr
namespace Go.Proofs.Ytonjpjiphcbemaa
open Go.RowKit

section
variable {P : Program} (w : World)

theorem run_append_K (base : Nat) (t ty e : TypeId) (i : TypeInfo) (z : Value) (bytes : Nat) (ht : P.underlying t = some (.slice e)) (hi : P.info? e = some i) (hz : i.zero = some z)
    (hsize : i.size = 1) (hby : i.bytes = bytes) (hzs : z.cells.size = 1)
    (v : Value) (n : Nat) (xs : List Value) (hown : w.ownsRow base e 1 v n xs)
    (A : Option Addr) (m c : Nat) (news : List Value) (hr : Vs w A m news) (h1 : ∀ u ∈ news, u.oneCell' = true)
    (hbytes : (n + m) * bytes ≤ 140737488355328) (h63 : n + m ≤ maxLen) (hbase : base ≤ w.heap.size) :
    ∃ v' w', (Builtin.append_ #[t, t] ty #[v, .slice A m c]).run P w = .ok v' w' ∧ w'.ownsRow base e 1 v' (n + m) (xs ++ news) ∧ w.grownBy w' v.ownBlock ∧
      (v'.ownBlock = v.ownBlock ∨ v'.ownBlock = some w.heap.size) ∧
      ((∃ g cap, v = .slice (some ⟨g, 0, none⟩) n cap ∧ v' = .slice (some ⟨g, 0, none⟩) (n + m) cap) ∨ (Below w.heap.size w w' ∧ (v'.ownBlock = none ∨ v'.ownBlock = some w.heap.size))) := by
  obtain ⟨v', w', hrun, h2, h3, h4⟩ := run_append_V (P := P) w base t ty e i z bytes ht hi hz hsize hby hzs v n xs hown A m c news hr h1 hbytes h63 hbase
  refine ⟨v', w', hrun, h2, h3, h4, ?_⟩
  rcases A with _ | ad
  · have hm : m = 0 := by
      rcases Nat.eq_zero_or_pos m with h0 | h0
      · exact h0
      · obtain ⟨_, _, h, _⟩ := hr.2 h0; cases h
    subst hm
    rw [run_append_V0 w base t ty e i 1 ht hi v n xs hown c] at hrun
    injection hrun with e1 e2
    subst e1; subst e2
    rcases hown.2 with ⟨rfl, rfl⟩ | ⟨g, cap, cur, rfl, _⟩
    · exact .inr ⟨Below.refl _ _, .inl rfl⟩
    · exact .inl ⟨g, cap, rfl, rfl⟩
  · have hcells : ∀ j u, news[j]? = some u → w.cell? (ad.add j) = some u := fun j u hu => by
      have hk : j < news.length := (List.getElem?_eq_some_iff.1 hu).1
      obtain ⟨b, o, e, hc⟩ := hr.2 (by rw [← hr.1]; omega)
      injection e with e; subst e
      rw [Addr.add_lit]; exact hc j u hu
    have hnew : ∀ cs, Below w.heap.size w (w.drew.alloc (.cells cs e)) := fun cs => ((Below.refl _ w).drew).alloc (Nat.le_refl _) _
    rcases hown.2 with ⟨rfl, rfl⟩ | ⟨g, cap, cur, rfl, hbg, hg, hnc, hcm, hcs, htake⟩
    · have : w.grownBy w' none := h3
      exact .inr ⟨⟨this.os, this.tape, this.output, this.size, fun i hi => this.block i hi (by simp)⟩, h4⟩
    · by_cases hroom : n + m ≤ cap
      · have hfit : n * i.size + news.length ≤ cur.size := by rw [hsize, hcs, hr.1, Nat.mul_one, Nat.mul_one]; exact hroom
        have hrr := run_append_room (P := P) (w := w) t ty e i ht hi g n cap cur hg ad m c news (by rw [hsize, Nat.mul_one]; exact hr.1) hcells h1 hroom hfit
        rw [hrr] at hrun
        injection hrun with e1 e2
        exact .inl ⟨g, cap, rfl, e1.symm⟩
      · have holds : ∀ j u, xs[j]? = some u → w.cell? ((⟨g, 0, none⟩ : Addr).add j) = some u := hown.cells (g := g) rfl
        have hrr := run_append_grow (P := P) (w := w) t ty e i z ht hi hz ⟨g, 0, none⟩ n cap xs (by rw [hsize]; exact hown.1) holds ad m c news (by rw [hsize, Nat.mul_one]; exact hr.1) hcells (by omega) (by simp only [maxLen] at h63; omega) (growslice_fits (by omega) (by rw [hby]; exact hbytes))
        rw [hrr] at hrun
        injection hrun with e1 e2
        subst e1; subst e2
        exact .inr ⟨hnew _, .inr rfl⟩

/-- the same, a string's bytes -/
theorem run_append_K_string (base : Nat) (t u ty e : TypeId) (i : TypeInfo) (ht : P.underlying t = some (.slice e)) (hu : P.underlying u = some .string) (hi : P.info? e = some i) (hz : i.zero = some (.int .u8 0))
    (hsize : i.size = 1) (hby : i.bytes = 1) (v : Value) (n : Nat) (xs : List Value) (hown : w.ownsRow base e 1 v n xs) (s : ByteArray)
    (hbytes : n + s.size ≤ 140737488355328) (hbase : base ≤ w.heap.size) :
    ∃ v' w', (Builtin.append_ #[t, u] ty #[v, .string s]).run P w = .ok v' w' ∧ w'.ownsRow base e 1 v' (n + s.size) (xs ++ Lib.strCells s) ∧ w.grownBy w' v.ownBlock ∧
      ((∃ g cap, v = .slice (some ⟨g, 0, none⟩) n cap ∧ v' = .slice (some ⟨g, 0, none⟩) (n + s.size) cap) ∨ (Below w.heap.size w w' ∧ (v'.ownBlock = none ∨ v'.ownBlock = some w.heap.size))) := by
  obtain ⟨v', w', hrun, h2, h3, hnil⟩ := Lib.run_append_own_string (P := P) w base t u ty e i ht hu hi hz hsize hby v n xs hown s (by simp only [maxLen]; omega) hbytes hbase
  refine ⟨v', w', hrun, h2, h3, ?_⟩
  rcases hown.2 with ⟨rfl, rfl⟩ | ⟨g, cap, cur, rfl, hbg, hg, hnc, hcm, hcs, htake⟩
  · have : w.grownBy w' none := h3
    refine .inr ⟨⟨this.os, this.tape, this.output, this.size, fun i hi => this.block i hi (by simp)⟩, ?_⟩
    by_cases hs : s.size = 0
    · rw [hnil.2 ⟨rfl, hs⟩]; exact .inl rfl
    · have hrr := run_append_nil_string (P := P) (w := w) t u ty e i (.int .u8 0) ht hu hi hz s (by omega) (by omega) (by rw [hby]; omega)
      rw [hrr] at hrun
      injection hrun with e1 e2
      subst e1
      exact .inr rfl
  · by_cases hroom : n + s.size ≤ cap
    · have hrr := Lib.run_append_room_string (P := P) w t u ty e i ht hu hi hsize g n cap cur hg s hroom (by rw [hcs]; omega)
      rw [hrr] at hrun
      injection hrun with e1 e2
      exact .inl ⟨g, cap, rfl, e1.symm⟩
    · have holds : ∀ j u, xs[j]? = some u → w.cell? ((⟨g, 0, none⟩ : Addr).add j) = some u := hown.cells (g := g) rfl
      have hrr := Lib.run_append_grow_string (P := P) w t u ty e i (.int .u8 0) ht hu hi hz ⟨g, 0, none⟩ n cap xs (by rw [hsize]; exact hown.1) holds s (by omega) (by omega) (by rw [hby]; exact growslice_fits (by omega) (by omega))
      rw [hrr] at hrun
      injection hrun with e1 e2
      subst e1; subst e2
      exact .inr ⟨((Below.refl _ w).drew).alloc (Nat.le_refl _) _, .inr rfl⟩

/-- 'v' was made of the owned row 'v0' by appending; the elder handle stands -/
structure Onto (w wr : World) (base : Nat) (e : TypeId) (v0 : Value) (n : Nat) (xs : List Value) (v : Value) (N : Nat) (ys : List Value) : Prop where
  now : wr.ownsRow base e 1 v N ys
  was : wr.ownsRow base e 1 v0 n xs
  front : n ≤ N ∧ ys.take n = xs
  grown : w.grownBy wr v0.ownBlock
  old : ∀ b, v0.ownBlock = some b → b < w.heap.size
  form : (∃ g cap, v0 = .slice (some ⟨g, 0, none⟩) n cap ∧ v = .slice (some ⟨g, 0, none⟩) N cap) ∨ ∀ b, v.ownBlock = some b → w.heap.size ≤ b

theorem own_front {W : World} {base : Nat} {e : TypeId} {g cap n N : Nat} {xs ys : List Value} (h : W.ownsRow base e 1 (.slice (some ⟨g, 0, none⟩) N cap) N ys) (hn : n ≤ N) (hx : ys.take n = xs) :
    W.ownsRow base e 1 (.slice (some ⟨g, 0, none⟩) n cap) n xs := by
  have hl := h.1
  refine ⟨by rw [← hx, List.length_take, hl]; omega, .inr ?_⟩
  rcases h.2 with ⟨hv, _⟩ | ⟨g', cap', cur, hv, hb, hg, h1, h2, h3, h4⟩
  · cases hv
  · injection hv with e1 e2 e3
    injection e1 with e1
    injection e1 with e1 _ _
    subst e1; subst e3
    refine ⟨g, cap, cur, rfl, hb, hg, by omega, h2, h3, ?_⟩
    rw [← hx, ← h4, List.take_take]
    congr 1
    omega

variable {w}
theorem Onto.start {base : Nat} {e : TypeId} {v0 : Value} {n : Nat} {xs : List Value} (h : w.ownsRow base e 1 v0 n xs) : Onto w w base e v0 n xs v0 n xs := by
  refine ⟨h, h, ⟨Nat.le_refl _, List.take_of_length_le (by rw [h.1]; omega)⟩, ⟨rfl, rfl, rfl, Nat.le_refl _, fun _ _ _ => rfl⟩, fun b hb => (h.lt b hb).2, ?_⟩
  rcases h.2 with ⟨rfl, rfl⟩ | ⟨g, cap, cur, rfl, _⟩
  · exact .inr fun b hb => by simp [Value.ownBlock] at hb
  · exact .inl ⟨g, cap, rfl, rfl⟩
theorem Onto.below {wr wr' : World} {base : Nat} {e : TypeId} {v0 v : Value} {n N : Nat} {xs ys : List Value} (h : Onto w wr base e v0 n xs v N ys) (hb : Below wr.heap.size wr wr') : Onto w wr' base e v0 n xs v N ys := by
  refine ⟨own_below h.now hb, own_below h.was hb, h.front, ⟨hb.os.trans h.grown.os, hb.tape.trans h.grown.tape, hb.output.trans h.grown.output, Nat.le_trans h.grown.size hb.size, fun i hi hne => ?_⟩, h.old, h.form⟩
  rw [hb.block i (Nat.lt_of_lt_of_le hi h.grown.size)]
  exact h.grown.block i hi hne
/-- one more append: what the append's law says -/
theorem Onto.step {wr w' : World} {base : Nat} {e : TypeId} {v0 v v' : Value} {n N m : Nat} {xs ys news : List Value} (h : Onto w wr base e v0 n xs v N ys)
    (h2 : w'.ownsRow base e 1 v' (N + m) (ys ++ news)) (h3 : wr.grownBy w' v.ownBlock)
    (h5 : (∃ g cap, v = .slice (some ⟨g, 0, none⟩) N cap ∧ v' = .slice (some ⟨g, 0, none⟩) (N + m) cap) ∨ (Below wr.heap.size wr w' ∧ (v'.ownBlock = none ∨ v'.ownBlock = some wr.heap.size))) : Onto w w' base e v0 n xs v' (N + m) (ys ++ news) := by
  have hyl : ys.length = N := by simpa using h.now.1
  have hfr : n ≤ N + m ∧ (ys ++ news).take n = xs := by
    refine ⟨by have := h.front.1; omega, ?_⟩
    rw [List.take_append_of_le_length (by rw [hyl]; exact h.front.1)]
    exact h.front.2
  rcases h5 with ⟨g, cap, rfl, rfl⟩ | ⟨hb, hv'⟩
  · have h3 : wr.grownBy w' (some g) := h3
    rcases h.form with ⟨g', cap', e1, e2⟩ | hf
    · subst e1
      injection e2 with e2 _ e3; injection e2 with e2; injection e2 with e2 _ _
      subst e2; subst e3
      have hg0 : w.grownBy wr (some g) := h.grown
      refine ⟨h2, own_front h2 hfr.1 hfr.2, hfr, ?_, h.old, .inl ⟨g, cap, rfl, rfl⟩⟩
      exact ⟨h3.os.trans hg0.os, h3.tape.trans hg0.tape, h3.output.trans hg0.output, Nat.le_trans hg0.size h3.size, fun i hi hne => (h3.block i (Nat.lt_of_lt_of_le hi hg0.size) hne).trans (hg0.block i hi hne)⟩
    · have hgw : w.heap.size ≤ g := hf g rfl
      refine ⟨h2, h.was.kept h3 ?_, hfr, ?_, h.old, .inr fun b hb => hf b hb⟩
      · cases hv : v0.ownBlock with
        | none => exact .inl rfl
        | some b =>
          have := h.old b hv
          refine .inr fun he => ?_
          injection he with he
          omega
      · refine ⟨h3.os.trans h.grown.os, h3.tape.trans h.grown.tape, h3.output.trans h.grown.output, Nat.le_trans h.grown.size h3.size, fun i hi hne => (h3.block i (Nat.lt_of_lt_of_le hi h.grown.size) ?_).trans (h.grown.block i hi hne)⟩
        intro he
        injection he with he
        omega
  · refine ⟨h2, own_below h.was hb, hfr, ?_, h.old, .inr fun b hb' => ?_⟩
    · exact ⟨hb.os.trans h.grown.os, hb.tape.trans h.grown.tape, hb.output.trans h.grown.output, Nat.le_trans h.grown.size hb.size, fun i hi hne => (hb.block i (Nat.lt_of_lt_of_le hi h.grown.size)).trans (h.grown.block i hi hne)⟩
    · rcases hv' with hv' | hv'
      · rw [hv'] at hb'; cases hb'
      · rw [hv'] at hb'
        injection hb' with hb'
        subst hb'
        exact h.grown.size
end
end Go.Proofs.Ytonjpjiphcbemaa
