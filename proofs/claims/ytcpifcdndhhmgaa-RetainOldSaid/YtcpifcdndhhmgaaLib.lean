/- Words for memory and their small laws; no program in sight. -/
import Derived.WalkKit
import Derived.Maps.AppendAt
import Derived.Deep.AppendLies
import Derived.Deep.Draws
import Derived.Lib.Hide
import Derived.Laws.BitsAllLaws
set_option linter.unusedVariables false
set_option linter.unusedSimpArgs false
namespace Go.Proofs.Ytcpifcdndhhmgaa
open Go.RowKit

/-! ### endings -/
theorem ret_int {k : IntKind} {a b : Int} (h : a = b) : Ending.returned (.int k a) = .returned (.int k b) := by rw [h]
theorem ret_bool {a b : Bool} (h : a = b) : Ending.returned (.bool a) = .returned (.bool b) := by rw [h]

/-! ### addresses -/
theorem block_add (a : Addr) (n : Nat) : (a.add n).block = a.block := by unfold Addr.add; split <;> rfl
theorem add_lit (b o i : Nat) : (⟨b, o, none⟩ : Addr).add i = ⟨b, o + i, none⟩ := by simp [Addr.add]

/-! ### a slice (elements of one cell) that reads as a list -/
/-- the slice whose first element lies at 'A' (or nowhere) has the n elements xs -/
def Vs (w : World) (A : Option Addr) (n : Nat) (xs : List Value) : Prop :=
  xs.length = n ∧ (0 < n → ∃ b o, A = some ⟨b, o, none⟩ ∧ ∀ i u, xs[i]? = some u → w.cell? ⟨b, o + i, none⟩ = some u)

/-- all cells of w are as they were in w' -/
def Keeps (w w' : World) : Prop := ∀ p u, w.cell? p = some u → w'.cell? p = some u

theorem Keeps.refl (w : World) : Keeps w w := fun _ _ h => h
theorem Keeps.trans {a b c : World} (h : Keeps a b) (k : Keeps b c) : Keeps a c := fun p u hp => k p u (h p u hp)
theorem Keeps.drew (w : World) : Keeps w w.drew := fun _ _ h => h
theorem Keeps.drewN (w : World) (n : Nat) : Keeps w (w.drewN n) := fun _ _ h => h
theorem Keeps.of_below {w w' : World} (h : Below w.heap.size w w') : Keeps w w' := fun p u hp => by
  rw [h.cell (World.block_lt_of_cell? w p hp)]; exact hp
theorem Keeps.alloc (w : World) (o : Obj) : Keeps w (w.alloc o) := fun p u hp => by
  rw [World.cell?_alloc_lt w o p (World.block_lt_of_cell? w p hp)]; exact hp

theorem below_then {B : Nat} {a b c : World} (h : Below B a b) (k : Below b.heap.size b c) (hB : B ≤ b.heap.size) : Below B a c := h.trans (k.mono hB)
theorem below_drewN' {B : Nat} {a w : World} (h : Below B a w) (n : Nat) : Below B a (w.drewN n) := ⟨h.os, h.tape, h.output, h.size, h.block⟩
section
variable {w w' : World} {A : Option Addr} {n : Nat} {xs : List Value}
theorem Vs.nil (w : World) (A : Option Addr) : Vs w A 0 [] := ⟨rfl, fun h => absurd h (by omega)⟩
theorem Vs.keep (h : Vs w A n xs) (hk : Keeps w w') : Vs w' A n xs :=
  ⟨h.1, fun hn => by
    obtain ⟨b, o, e, hc⟩ := h.2 hn
    exact ⟨b, o, e, fun i u hu => hk _ _ (hc i u hu)⟩⟩
theorem Vs.below (h : Vs w A n xs) (hb : Below w.heap.size w w') : Vs w' A n xs := h.keep (.of_below hb)
theorem Vs.drew (h : Vs w A n xs) : Vs w.drew A n xs := h
theorem Vs.drewN (h : Vs w A n xs) (k : Nat) : Vs (w.drewN k) A n xs := h
theorem Vs.alloc (h : Vs w A n xs) (o : Obj) : Vs (w.alloc o) A n xs := h.keep (.alloc w o)
theorem Vs.at_ {k : Nat} (h : Vs w A n xs) (hk : k < n) : ∃ b o, A = some ⟨b, o, none⟩ ∧ w.cell? ⟨b, o + k, none⟩ = some (xs[k]'(by rw [h.1]; exact hk)) := by
  obtain ⟨b, o, e, hc⟩ := h.2 (by omega)
  exact ⟨b, o, e, hc k _ (List.getElem?_eq_getElem _)⟩
theorem Vs.some_ (h : Vs w A n xs) (hk : 0 < n) : ∃ b o, A = some ⟨b, o, none⟩ := by
  obtain ⟨b, o, rfl, hc⟩ := h.2 hk
  exact ⟨b, o, rfl⟩
theorem Vs.cellAt {b o k : Nat} {u : Value} (h : Vs w (some ⟨b, o, none⟩) n xs) (hu : xs[k]? = some u) : w.cell? ⟨b, o + k, none⟩ = some u := by
  have hk : k < xs.length := (List.getElem?_eq_some_iff.1 hu).1
  obtain ⟨b', o', e, hc⟩ := h.2 (by rw [← h.1]; omega)
  injection e with e; injection e with e1 e2; subst e1; subst e2
  exact hc k u hu
/-- s[k:] -/
theorem Vs.from_ (h : Vs w A n xs) {k cap : Nat} (hk : k ≤ n) (hc : n ≤ cap) : Vs w (if cap = k then A else A.map (·.add k)) (n - k) (xs.drop k) := by
  refine ⟨by rw [List.length_drop, h.1], fun hn => ?_⟩
  obtain ⟨b, o, rfl, hcell⟩ := h.2 (by omega)
  rw [if_neg (by omega)]
  refine ⟨b, o + k, by simp [Addr.add_lit], fun i u hu => ?_⟩
  rw [Nat.add_assoc]
  exact hcell _ u (by rw [← hu, List.getElem?_drop])
/-- s[:k] -/
theorem Vs.to_ (h : Vs w A n xs) {k : Nat} (hk : k ≤ n) : Vs w A k (xs.take k) := by
  refine ⟨by rw [List.length_take, h.1]; omega, fun hn => ?_⟩
  obtain ⟨b, o, rfl, hcell⟩ := h.2 (by omega)
  refine ⟨b, o, rfl, fun i u hu => hcell i u ?_⟩
  rw [List.getElem?_take] at hu
  split at hu
  · exact hu
  · cases hu
/-- s[j:k] -/
theorem Vs.mid_ (h : Vs w A n xs) {j k cap : Nat} (hj : j ≤ k) (hk : k ≤ n) (hc : n ≤ cap) :
    Vs w (if cap = j then A else A.map (·.add j)) (k - j) ((xs.take k).drop j) := (h.to_ hk).from_ hj (by omega)
theorem Vs.of_own {base : Nat} {e : TypeId} {c : Nat} (h : w.ownsRow base e 1 (.slice A n c) n xs) : Vs w A n xs := by
  refine ⟨by simpa using h.1, fun hn => ?_⟩
  obtain ⟨g, cap, hv, _, hlt⟩ := h.form hn
  have hA : A = some ⟨g, 0, none⟩ := by injection hv
  subst hA
  refine ⟨g, 0, rfl, fun i u hu => ?_⟩
  have := h.cells (g := g) rfl i u hu
  rwa [Addr.add_lit] at this
/-- what the call made reads as what it owns; its value written out -/
theorem own_slice {base : Nat} {e : TypeId} {v : Value} (h : w.ownsRow base e 1 v n xs) : ∃ A c, v = .slice A n c ∧ n ≤ c ∧ c ≤ maxLen ∧ Vs w A n xs ∧ (A = none → n = 0 ∧ c = 0) := by
  rcases h.2 with ⟨rfl, rfl⟩ | ⟨g, cap, cur, rfl, _, _, h1, h2, _⟩
  · exact ⟨_, _, rfl, Nat.le_refl _, by simp [maxLen], .of_own h, fun _ => ⟨rfl, rfl⟩⟩
  · exact ⟨_, _, rfl, h1, h2, .of_own h, fun h => by cases h⟩
/-- a row that was just laid, written out -/
theorem Vs.lit {B : Nat} {cs : Array Value} {t : TypeId} {fr : Nat × Nat} (h : w.heap[B]? = some (.cells cs t fr)) (hn : cs.size = n) : Vs w (some ⟨B, 0, none⟩) n cs.toList := by
  refine ⟨by simpa using hn, fun _ => ⟨_, _, rfl, fun i u hu => ?_⟩⟩
  rw [Nat.zero_add]
  simp [World.cell?, h]
  simpa using hu
end

/-! ### bytes -/
/-- the byte's value -/
abbrev bval (u : UInt8) : Value := .int .u8 (u.toNat : Int)
def bv (l : List UInt8) : List Value := l.map fun u => .int .u8 (u.toNat : Int)
theorem length_bv (l : List UInt8) : (bv l).length = l.length := by simp [bv]
theorem bv_get (l : List UInt8) (i : Nat) (h : i < l.length) : (bv l)[i]? = some (.int .u8 (l[i].toNat : Int)) := by simp [bv, h]
theorem bv_at {l : List UInt8} {i : Nat} {x : UInt8} (h : l[i]? = some x) : (bv l).toArray[i]? = some (.int .u8 (x.toNat : Int)) := by
  rw [List.getElem?_toArray]; simp [bv, h]
theorem bv_set (l : List UInt8) (i : Nat) (x : UInt8) : (bv l).toArray.setIfInBounds i (.int .u8 (x.toNat : Int)) = (bv (l.set i x)).toArray := by
  rw [List.setIfInBounds_toArray]; simp [bv, List.map_set]
theorem bv_append (l m : List UInt8) : bv (l ++ m) = bv l ++ bv m := by simp [bv]
theorem bv_drop (l : List UInt8) (k : Nat) : bv (l.drop k) = (bv l).drop k := by simp [bv, List.map_drop]
theorem bv_take (l : List UInt8) (k : Nat) : bv (l.take k) = (bv l).take k := by simp [bv, List.map_take]
theorem bv_one (l : List UInt8) : ∀ u ∈ bv l, u.oneCell' = true := by
  intro u hu; simp [bv] at hu; obtain ⟨x, _, rfl⟩ := hu; rfl
/-- the slice at A of n elements is the bytes l -/
def Bs (w : World) (A : Option Addr) (n : Nat) (l : List UInt8) : Prop := Vs w A n (bv l)
section
variable {w w' : World} {A : Option Addr} {n : Nat} {l : List UInt8}
theorem Bs.len (h : Bs w A n l) : l.length = n := by rw [← length_bv]; exact h.1
theorem Bs.nil (w : World) (A : Option Addr) : Bs w A 0 [] := Vs.nil w A
theorem Bs.keep (h : Bs w A n l) (hk : Keeps w w') : Bs w' A n l := Vs.keep h hk
theorem Bs.below (h : Bs w A n l) (hb : Below w.heap.size w w') : Bs w' A n l := Vs.below h hb
theorem Bs.alloc (h : Bs w A n l) (o : Obj) : Bs (w.alloc o) A n l := Vs.alloc h o
theorem Bs.at_ {k : Nat} (h : Bs w A n l) (hk : k < n) : ∃ b o, A = some ⟨b, o, none⟩ ∧ w.cell? ⟨b, o + k, none⟩ = some (.int .u8 ((l[k]'(by rw [h.len]; exact hk)).toNat : Int)) := by
  obtain ⟨b, o, e, hc⟩ := Vs.at_ h hk
  refine ⟨b, o, e, ?_⟩
  rw [hc]; simp [bv]
theorem Bs.some_ (h : Bs w A n l) (hk : 0 < n) : ∃ b o, A = some ⟨b, o, none⟩ := Vs.some_ h hk
theorem Bs.cellAt {b o k : Nat} (h : Bs w (some ⟨b, o, none⟩) n l) (hk : k < l.length) : w.cell? ⟨b, o + k, none⟩ = some (.int .u8 (l[k].toNat : Int)) :=
  Vs.cellAt h (bv_get l k hk)
theorem Bs.from_ (h : Bs w A n l) {k cap : Nat} (hk : k ≤ n) (hc : n ≤ cap) : Bs w (if cap = k then A else A.map (·.add k)) (n - k) (l.drop k) := by
  unfold Bs; rw [bv_drop]; exact Vs.from_ h hk hc
theorem Bs.to_ (h : Bs w A n l) {k : Nat} (hk : k ≤ n) : Bs w A k (l.take k) := by
  unfold Bs; rw [bv_take]; exact Vs.to_ h hk
theorem Bs.mid_ (h : Bs w A n l) {j k cap : Nat} (hj : j ≤ k) (hk : k ≤ n) (hc : n ≤ cap) : Bs w (if cap = j then A else A.map (·.add j)) (k - j) ((l.take k).drop j) :=
  (h.to_ hk).from_ hj (by omega)
end

/-- n elements, each a slice of bytes: 'ls' -/
def Ps (w : World) (A : Option Addr) (n : Nat) (ls : List (List UInt8)) : Prop :=
  ls.length = n ∧ ∃ xs, Vs w A n xs ∧ ∀ i (h : i < ls.length), ∃ B m c, xs[i]? = some (.slice B m c) ∧ Bs w B m ls[i] ∧ m ≤ c ∧ c ≤ 9223372036854775807
theorem Ps.len {w : World} {A : Option Addr} {n : Nat} {ls : List (List UInt8)} (h : Ps w A n ls) : ls.length = n := h.1
theorem Ps.keep {w w' : World} {A : Option Addr} {n : Nat} {ls : List (List UInt8)} (h : Ps w A n ls) (hk : Keeps w w') : Ps w' A n ls := by
  obtain ⟨h1, xs, hv, hx⟩ := h
  exact ⟨h1, xs, hv.keep hk, fun i hi => by
    obtain ⟨B, m, c, e, hb, hc⟩ := hx i hi
    exact ⟨B, m, c, e, hb.keep hk, hc⟩⟩
theorem Ps.at_ {w : World} {A : Option Addr} {n k : Nat} {ls : List (List UInt8)} (h : Ps w A n ls) (hk : k < n) :
    ∃ b o B m c, A = some ⟨b, o, none⟩ ∧ w.cell? ⟨b, o + k, none⟩ = some (.slice B m c) ∧ Bs w B m (ls[k]'(by rw [h.1]; exact hk)) ∧ m ≤ c ∧ c ≤ 9223372036854775807 := by
  obtain ⟨h1, xs, hv, hx⟩ := h
  obtain ⟨B, m, c, e, hb, hc⟩ := hx k (by omega)
  obtain ⟨b, o, rfl, _⟩ := hv.at_ hk
  exact ⟨b, o, B, m, c, rfl, hv.cellAt e, hb, hc⟩
theorem Ps.one {w : World} {b o : Nat} {B : Option Addr} {m c : Nat} {l : List UInt8} (h : w.cell? ⟨b, o, none⟩ = some (.slice B m c)) (hb : Bs w B m l) (hm : m ≤ c) (hc : c ≤ 9223372036854775807) : Ps w (some ⟨b, o, none⟩) 1 [l] := by
  refine ⟨rfl, [.slice B m c], ⟨rfl, fun _ => ⟨b, o, rfl, fun i u hu => ?_⟩⟩, fun i hi => ?_⟩
  · match i, hu with
    | 0, hu => simp at hu; subst hu; exact h
  · match i, hi with
    | 0, _ => exact ⟨B, m, c, rfl, hb, hm, hc⟩
theorem Ps.cons_ {w : World} {b o : Nat} {n : Nat} {B : Option Addr} {m c : Nat} {l : List UInt8} {ls : List (List UInt8)} (h : w.cell? ⟨b, o, none⟩ = some (.slice B m c)) (hb : Bs w B m l) (hm : m ≤ c) (hc : c ≤ 9223372036854775807)
    (ht : Ps w (some ⟨b, o + 1, none⟩) n ls) : Ps w (some ⟨b, o, none⟩) (n + 1) (l :: ls) := by
  obtain ⟨h1, xs, hv, hx⟩ := ht
  refine ⟨by simp [h1], .slice B m c :: xs, ⟨by simp [hv.1], fun _ => ⟨b, o, rfl, fun i u hu => ?_⟩⟩, fun i hi => ?_⟩
  · cases i with
    | zero => simp at hu; subst hu; exact h
    | succ i =>
      have := hv.cellAt (k := i) (u := u) (by simpa using hu)
      rw [Nat.add_assoc, Nat.add_comm 1 i] at this; exact this
  · cases i with
    | zero => exact ⟨B, m, c, rfl, hb, hm, hc⟩
    | succ i =>
      obtain ⟨B', m', c', e, r⟩ := hx i (by simp at hi; omega)
      exact ⟨B', m', c', by simpa using e, by simpa using r⟩
theorem cell_new (w : World) (c : Array Value) (t : TypeId) (i : Nat) {u : Value} (h : c[i]? = some u) : (w.alloc (.cells c t)).cell? ⟨w.heap.size, i, none⟩ = some u := by
  rw [World.cell?_alloc_new]; exact h
theorem cell_new' (w : World) (c : Array Value) (t : TypeId) (i : Nat) {B : Nat} (hB : B = w.heap.size) {u : Value} (h : c[i]? = some u) : (w.alloc (.cells c t)).cell? ⟨B, i, none⟩ = some u := by
  subst hB; exact cell_new w c t i h
theorem heap_at_new (w : World) (o : Obj) {B : Nat} (hB : B = w.heap.size) : (w.alloc o).heap[B]? = some o := by subst hB; exact heap_alloc_new w o
theorem Ps.lit1 {w : World} {A : Option Addr} {n c : Nat} {l : List UInt8} (t : TypeId) {B : Nat} (hB : B = w.heap.size) (h : Bs w A n l) (hm : n ≤ c) (hc : c ≤ 9223372036854775807) : Ps (w.alloc (.cells #[.slice A n c] t)) (some ⟨B, 0, none⟩) 1 [l] :=
  Ps.one (cell_new' w _ t 0 hB rfl) (h.alloc _) hm hc
theorem Ps.lit2 {w : World} {A A' : Option Addr} {n c n' c' : Nat} {l l' : List UInt8} (t : TypeId) {B : Nat} (hB : B = w.heap.size) (h : Bs w A n l) (hm : n ≤ c) (hc : c ≤ 9223372036854775807) (h' : Bs w A' n' l') (hm' : n' ≤ c') (hc' : c' ≤ 9223372036854775807) :
    Ps (w.alloc (.cells #[.slice A n c, .slice A' n' c'] t)) (some ⟨B, 0, none⟩) 2 [l, l'] :=
  Ps.cons_ (cell_new' w _ t 0 hB rfl) (h.alloc _) hm hc (Ps.one (cell_new' w _ t _ hB rfl) (h'.alloc _) hm' hc')
theorem Ps.lit3 {w : World} {A A' A2 : Option Addr} {n c n' c' n2 c2 : Nat} {l l' l2 : List UInt8} (t : TypeId) {B : Nat} (hB : B = w.heap.size) (h : Bs w A n l) (hm : n ≤ c) (hc : c ≤ 9223372036854775807) (h' : Bs w A' n' l') (hm' : n' ≤ c') (hc' : c' ≤ 9223372036854775807)
    (h2 : Bs w A2 n2 l2) (hm2 : n2 ≤ c2) (hc2 : c2 ≤ 9223372036854775807) :
    Ps (w.alloc (.cells #[.slice A n c, .slice A' n' c', .slice A2 n2 c2] t)) (some ⟨B, 0, none⟩) 3 [l, l', l2] :=
  Ps.cons_ (cell_new' w _ t 0 hB rfl) (h.alloc _) hm hc (Ps.cons_ (cell_new' w _ t _ hB rfl) (h'.alloc _) hm' hc' (Ps.one (cell_new' w _ t _ hB rfl) (h2.alloc _) hm2 hc2))
/-- bytes that were just laid -/
theorem Bs.lit {w : World} {cs : Array Value} (t : TypeId) {B n : Nat} (hB : B = w.heap.size) (l : List UInt8) (hn : n = l.length) (h : cs = (bv l).toArray) : Bs (w.alloc (.cells cs t)) (some ⟨B, 0, none⟩) n l := by
  subst h; subst hB; subst hn
  have := Vs.lit (w := w.alloc (.cells (bv l).toArray t)) (B := w.heap.size) (heap_alloc_new w _) (n := l.length) (by simp [bv])
  simpa [Bs] using this

/-! ### append: what is appended is read by 'Vs', nil and empty too -/
section
variable {P : Program} (w : World)
theorem run_append_V0 (base : Nat) (t ty e : TypeId) (i : TypeInfo) (size : Nat) (ht : P.underlying t = some (.slice e)) (hi : P.info? e = some i)
    (v : Value) (n : Nat) (xs : List Value) (hown : w.ownsRow base e size v n xs) (c : Nat) : (Builtin.append_ #[t, t] ty #[v, .slice none 0 c]).run P w = .ok v w := by
  rcases hown.2 with ⟨rfl, rfl⟩ | ⟨g, cap, cur, rfl, _, _, hnc, _⟩
  · simp [Builtin.append_, run_underlying ht, sizeOf, typeInfo, hi, Builtin.lenOf, Builtin.firstCells]
  · simp [Builtin.append_, run_underlying ht, sizeOf, typeInfo, hi, Builtin.lenOf, Builtin.firstCells, hnc, storeCells]

theorem run_append_V (base : Nat) (t ty e : TypeId) (i : TypeInfo) (z : Value) (bytes : Nat) (ht : P.underlying t = some (.slice e)) (hi : P.info? e = some i) (hz : i.zero = some z)
    (hsize : i.size = 1) (hby : i.bytes = bytes) (hzs : z.cells.size = 1)
    (v : Value) (n : Nat) (xs : List Value) (hown : w.ownsRow base e 1 v n xs)
    (A : Option Addr) (m c : Nat) (news : List Value) (hr : Vs w A m news) (h1 : ∀ u ∈ news, u.oneCell' = true)
    (hbytes : (n + m) * bytes ≤ 140737488355328) (h63 : n + m ≤ maxLen) (hbase : base ≤ w.heap.size) :
    ∃ v' w', (Builtin.append_ #[t, t] ty #[v, .slice A m c]).run P w = .ok v' w' ∧ w'.ownsRow base e 1 v' (n + m) (xs ++ news) ∧ w.grownBy w' v.ownBlock ∧
      (v'.ownBlock = v.ownBlock ∨ v'.ownBlock = some w.heap.size) := by
  rcases A with _ | ad
  · have hm : m = 0 := by
      rcases Nat.eq_zero_or_pos m with h0 | h0
      · exact h0
      · obtain ⟨_, _, h, _⟩ := hr.2 h0
        cases h
    subst hm
    have hn : news = [] := List.eq_nil_of_length_eq_zero hr.1
    subst hn
    exact ⟨v, w, run_append_V0 w base t ty e i 1 ht hi v n xs hown c, by simpa using hown, World.grownBy.refl w _, .inl rfl⟩
  · have hcells : ∀ j u, news[j]? = some u → w.cell? (ad.add j) = some u := fun j u hu => by
      have hk : j < news.length := (List.getElem?_eq_some_iff.1 hu).1
      obtain ⟨b, o, e, hc⟩ := hr.2 (by rw [← hr.1]; omega)
      injection e with e; subst e
      rw [Addr.add_lit]; exact hc j u hu
    obtain ⟨v', w', hrun, h2, h3, _, h5⟩ := run_append_own_at (P := P) w base t ty e i z 1 bytes ht hi hz hsize hby hzs (by omega) v n xs hown ad m c news (by rw [hr.1, Nat.mul_one]) hcells h1 h63 hbytes hbase
    exact ⟨v', w', hrun, h2, h3, h5⟩

theorem wp_append_V {o : Oper} {a : Act} {K : Act → World → Prop} {Q : Exit → Act → World → Prop} (s x : Operand) (t : TypeId)
    (ho : o.op = .call { callee := .builtin .append, args := #[s, x], argTypes := #[t, t] })
    (base : Nat) (e : TypeId) (i : TypeInfo) (z : Value) (bytes : Nat) (ht : P.underlying t = some (.slice e)) (hi : P.info? e = some i) (hz : i.zero = some z)
    (hsize : i.size = 1) (hby : i.bytes = bytes) (hzs : z.cells.size = 1)
    (v : Value) (n : Nat) (xs : List Value) (hs : a.eval s = v) (hown : w.ownsRow base e 1 v n xs)
    (A : Option Addr) (m c : Nat) (news : List Value) (hx : a.eval x = .slice A m c) (hr : Vs w A m news) (h1 : ∀ u ∈ news, u.oneCell' = true)
    (hbytes : (n + m) * bytes ≤ 140737488355328) (h63 : n + m ≤ maxLen) (hbase : base ≤ w.heap.size)
    (h : ∀ v' w', w'.ownsRow base e 1 v' (n + m) (xs ++ news) → w.grownBy w' v.ownBlock → (v'.ownBlock = v.ownBlock ∨ v'.ownBlock = some w.heap.size) → K (a.put o.dst v') w') : o.wp P a w K Q := by
  obtain ⟨v', w', hrun, h2, h3, h4⟩ := run_append_V (P := P) w base t o.type e i z bytes ht hi hz hsize hby hzs v n xs hown A m c news hr h1 hbytes h63 hbase
  unfold Oper.wp execOp
  simp only [ho, resolve, invoke, builtin, Sem.run_bind, Sem.run_pure, Result.andThen_ok, List.map_toArray, List.map_cons, List.map_nil, hs, hx, hrun]
  exact h v' w' h2 h3 h4

theorem wpList_append_V {ops : Array Oper} {rest : List Oper} {o : Oper} {a : Act} {Q : Exit → Act → World → Prop} (hgd : o.guard = none) (s x : Operand) (t : TypeId)
    (ho : o.op = .call { callee := .builtin .append, args := #[s, x], argTypes := #[t, t] })
    (base : Nat) (e : TypeId) (i : TypeInfo) (z : Value) (bytes : Nat) (ht : P.underlying t = some (.slice e)) (hi : P.info? e = some i) (hz : i.zero = some z)
    (hsize : i.size = 1) (hby : i.bytes = bytes) (hzs : z.cells.size = 1)
    (v : Value) (n : Nat) (xs : List Value) (hs : a.eval s = v) (hown : w.ownsRow base e 1 v n xs)
    (A : Option Addr) (m c : Nat) (news : List Value) (hx : a.eval x = .slice A m c) (hr : Vs w A m news) (h1 : ∀ u ∈ news, u.oneCell' = true)
    (hbytes : (n + m) * bytes ≤ 140737488355328) (h63 : n + m ≤ maxLen) (hbase : base ≤ w.heap.size)
    (h : ∀ v' w', w'.ownsRow base e 1 v' (n + m) (xs ++ news) → w.grownBy w' v.ownBlock → (v'.ownBlock = v.ownBlock ∨ v'.ownBlock = some w.heap.size) → wpList P ops Q rest (a.put o.dst v') w') : wpList P ops Q (o :: rest) a w :=
  wpList_plain hgd fun _ hK => wp_append_V w s x t ho base e i z bytes ht hi hz hsize hby hzs v n xs hs hown A m c news hx hr h1 hbytes h63 hbase fun v' w' h2 h3 h4 => hK _ _ (h v' w' h2 h3 h4)
end
/-- an append whose run is known -/
theorem wpList_append_run {P : Program} {w : World} {ops : Array Oper} {rest : List Oper} {o : Oper} {a : Act} {Q : Exit → Act → World → Prop} (hgd : o.guard = none) (s x : Operand) (t u : TypeId)
    (ho : o.op = .call { callee := .builtin .append, args := #[s, x], argTypes := #[t, u] }) {v y r : Value} {w' : World} (hs : a.eval s = v) (hx : a.eval x = y)
    (hrun : (Builtin.append_ #[t, u] o.type #[v, y]).run P w = .ok r w') (h : wpList P ops Q rest (a.put o.dst r) w') : wpList P ops Q (o :: rest) a w :=
  wpList_plain hgd fun K hK => by
    unfold Oper.wp execOp
    simp only [ho, resolve, invoke, builtin, Sem.run_bind, Sem.run_pure, Result.andThen_ok, List.map_toArray, List.map_cons, List.map_nil, hs, hx, hrun]
    exact hK _ _ h
/-- behind such an append: what was there below 'base' stands -/
theorem below_append {w0 w w' : World} {v : Value} {B : Nat} {e : TypeId} {n : Nat} {xs : List Value} (hb : Below B w0 w) (hg : w.grownBy w' v.ownBlock) (hown : w.ownsRow B e 1 v n xs) (hB : B ≤ w.heap.size) : Below B w0 w' :=
  hb.grown hg hB fun k hk => (hown.lt k hk).1

/-! ### in a loop's round: the next element -/
theorem take_next {α : Type} {l : List α} {k : Nat} (h : k < l.length) : l.take (k + 1) = l.take k ++ [l[k]] := List.take_succ_eq_append_getElem h
theorem Bs.next {w : World} {A : Option Addr} {n k : Nat} {l : List UInt8} (h : Bs w A n l) (hk : k < n) :
    ∃ b o x, A = some ⟨b, o, none⟩ ∧ w.cell? ⟨b, o + k, none⟩ = some (.int .u8 ((x : UInt8).toNat : Int)) ∧ Hid (l.take (k + 1) = l.take k ++ [x]) ∧ Hid (l[k]? = some x) := by
  obtain ⟨b, o, e, hc⟩ := h.at_ hk
  have hl : k < l.length := by rw [h.len]; exact hk
  exact ⟨b, o, l[k], e, hc, take_next hl, List.getElem?_eq_getElem hl⟩
theorem Ps.next {w : World} {A : Option Addr} {n k : Nat} {ls : List (List UInt8)} (h : Ps w A n ls) (hk : k < n) :
    ∃ b o B m c l, A = some ⟨b, o, none⟩ ∧ w.cell? ⟨b, o + k, none⟩ = some (.slice B m c) ∧ Bs w B m l ∧ m ≤ c ∧ c ≤ 9223372036854775807 ∧ Hid (ls.take (k + 1) = ls.take k ++ [l]) ∧ Hid (ls[k]? = some l) := by
  obtain ⟨b, o, B, m, c, e, hc, hb, h1, h2⟩ := h.at_ hk
  have hl : k < ls.length := by rw [h.len]; exact hk
  exact ⟨b, o, B, m, c, ls[k], e, hc, hb, h1, h2, take_next hl, List.getElem?_eq_getElem hl⟩
theorem Vs.next {w : World} {A : Option Addr} {n k : Nat} {xs : List Value} (h : Vs w A n xs) (hk : k < n) :
    ∃ b o u, A = some ⟨b, o, none⟩ ∧ w.cell? ⟨b, o + k, none⟩ = some u ∧ Hid (xs.take (k + 1) = xs.take k ++ [u]) ∧ Hid (xs[k]? = some u) := by
  obtain ⟨b, o, e, hc⟩ := h.at_ hk
  have hl : k < xs.length := by rw [h.1]; exact hk
  exact ⟨b, o, xs[k], e, hc, take_next hl, List.getElem?_eq_getElem hl⟩
theorem cell_of_block {w : World} {b i : Nat} {cs : Array Value} {t : TypeId} {fr : Nat × Nat} {u : Value} (h : w.heap[b]? = some (.cells cs t fr)) (hi : cs[i]? = some u) : w.cell? ⟨b, i, none⟩ = some u := by
  simp [World.cell?, h, hi]
theorem free_of_block {w : World} {b i : Nat} {cs : Array Value} {t : TypeId} (h : w.heap[b]? = some (.cells cs t (0, 0))) : w.frozen? ⟨b, i, none⟩ = false := by
  simp [World.frozen?, h]
theorem block_setCell {w : World} {b i : Nat} {cs : Array Value} {t : TypeId} {fr : Nat × Nat} (u : Value) (h : w.heap[b]? = some (.cells cs t fr)) : (w.setCell ⟨b, i, none⟩ u).heap[b]? = some (.cells (cs.setIfInBounds i u) t fr) := by
  simp [World.setCell, Array.getElem?_modify, h]
theorem Bs.all {w : World} {A : Option Addr} {n : Nat} {l : List UInt8} (h : Bs w A n l) : l.take n = l := List.take_of_length_le (by rw [h.len]; exact Nat.le_refl _)
theorem Ps.all {w : World} {A : Option Addr} {n : Nat} {ls : List (List UInt8)} (h : Ps w A n ls) : ls.take n = ls := List.take_of_length_le (by rw [h.len]; exact Nat.le_refl _)

theorem ownsRow_base {w : World} {base base' : Nat} {e : TypeId} {size : Nat} {v : Value} {n : Nat} {xs : List Value} (h : w.ownsRow base e size v n xs) (hb : base' ≤ base) : w.ownsRow base' e size v n xs := by
  refine ⟨h.1, ?_⟩
  rcases h.2 with h2 | ⟨g, cap, cur, hv, hg, r⟩
  · exact .inl h2
  · exact .inr ⟨g, cap, cur, hv, by omega, r⟩

/-! ### an owned row that is written -/
theorem own_form {w : World} {base : Nat} {e : TypeId} {v : Value} {n : Nat} {xs : List Value} (h : w.ownsRow base e 1 v n xs) (hn : 0 < n) :
    ∃ g c, v = .slice (some ⟨g, 0, none⟩) n c ∧ base ≤ g ∧ g < w.heap.size ∧ n ≤ c ∧ c ≤ 9223372036854775807 := by
  obtain ⟨g, c, hv, hb, hlt⟩ := h.form hn
  refine ⟨g, c, hv, hb, hlt, ?_⟩
  obtain ⟨A, c', e, h1, h2, _⟩ := own_slice h
  rw [hv] at e
  injection e with e1 e2 e3
  subst e3
  exact ⟨h1, by simpa [maxLen] using h2⟩
theorem bv_set' (l : List UInt8) (i : Nat) (x : UInt8) : (bv l).set i (.int .u8 (x.toNat : Int)) = bv (l.set i x) := by simp [bv, List.map_set]
theorem cell_far {w : World} {a p : Addr} {u v : Value} (h : w.cell? p = some v) (hne : p.block ≠ a.block) : (w.setCell a u).cell? p = some v := by
  rw [World.cell?_setCell_other w a p u (fun e => hne (by rw [e]))]; exact h
theorem grown_of_below {a w : World} (h : Below a.heap.size a w) (row : Option Nat) : a.grownBy w row := ⟨h.os, h.tape, h.output, h.size, fun i hi _ => h.block i hi⟩
theorem own_below {w w' : World} {base : Nat} {e : TypeId} {size : Nat} {v : Value} {n : Nat} {xs : List Value} (h : w.ownsRow base e size v n xs) (hb : Below w.heap.size w w') : w'.ownsRow base e size v n xs := by
  cases hv : v.ownBlock with
  | none => exact h.kept (grown_of_below hb none) (.inl hv)
  | some k => exact h.kept (grown_of_below hb none) (.inr (by rw [hv]; simp))
theorem Vs.far {w : World} {A : Option Addr} {n : Nat} {xs : List Value} (h : Vs w A n xs) {p : Addr} (hne : ∀ b o, A = some ⟨b, o, none⟩ → b ≠ p.block) (u : Value) : Vs (w.setCell p u) A n xs :=
  ⟨h.1, fun hn => by
    obtain ⟨b, o, e, hc⟩ := h.2 hn
    exact ⟨b, o, e, fun i u hu => cell_far (hc i u hu) (hne b o e)⟩⟩

/-! ### quiet calls in a region, behind draws -/
/-! ### bits of u32, of u8, of ints -/
theorem byte_lt (x : UInt8) : x.toNat < 256 := x.toNat_lt
theorem ofInt_i64_nat (a : Nat) (ha : a < 9223372036854775808) : (BitVec.ofInt 64 (a : Int)).toNat = a := by
  rw [BitVec.ofInt_natCast, BitVec.toNat_ofNat]; exact Nat.mod_eq_of_lt (by omega)
theorem i64_or_join (x y k : Nat) (hx : x < 2 ^ k) (hy : y * 2 ^ k + x < 9223372036854775808) : bits .or .i64 (x : Int) ((y * 2 ^ k : Nat) : Int) = ((x + y * 2 ^ k : Nat) : Int) := by
  have h : x ||| y * 2 ^ k = x + y * 2 ^ k := by
    rw [Nat.or_comm, nat_join k (y * 2 ^ k) x (Nat.mul_mod_left _ _) hx, Nat.add_comm]
  show IntKind.i64.wrap ((BitVec.ofInt 64 (x : Int) ||| BitVec.ofInt 64 ((y * 2 ^ k : Nat) : Int)).toNat : Int) = _
  rw [BitVec.toNat_or, ofInt_i64_nat x (by omega), ofInt_i64_nat (y * 2 ^ k) (by omega), h, IntKind.wrap_i64]
  omega
theorem u32_or_join (x y k : Nat) (hx : x < 2 ^ k) (hy : y * 2 ^ k + x < 4294967296) : bits .or .u32 (x : Int) ((y * 2 ^ k : Nat) : Int) = ((x + y * 2 ^ k : Nat) : Int) := by
  have h : x ||| y * 2 ^ k = x + y * 2 ^ k := by
    rw [Nat.or_comm, nat_join k (y * 2 ^ k) x (Nat.mul_mod_left _ _) hx, Nat.add_comm]
  rw [u32_or_nat _ _ (by omega) (by omega), h]

theorem u32_xor_bv (a b : BitVec 32) : bits .xor .u32 (a.toNat : Int) (b.toNat : Int) = ((a ^^^ b).toNat : Int) := by
  rw [u32_xor_nat _ _ a.isLt b.isLt, BitVec.toNat_xor]
end Go.Proofs.Ytcpifcdndhhmgaa
