/- session.Chunk, plainly. -/
import Derived.Test.YtonjpjiphcbemaaSesOwn
namespace Go.Proofs.Ytonjpjiphcbemaa
open Go.RowKit
/-- the first k of xs laid at a -/
def layK {α : Type} (l : List α) (a : Nat) (xs : List α) (k : Nat) : List α := l.take a ++ xs.take k ++ l.drop (a + k)
theorem length_layK {α : Type} (l : List α) (a : Nat) (xs : List α) (k : Nat) (hk : k ≤ xs.length) (ha : a + k ≤ l.length) : (layK l a xs k).length = l.length := by
  simp only [layK, List.length_append, List.length_take, List.length_drop]; omega
theorem layK_zero {α : Type} (l : List α) (a : Nat) (xs : List α) : layK l a xs 0 = l := by simp [layK]
theorem layK_set {α : Type} (l : List α) (a : Nat) (xs : List α) (k : Nat) (x : α) (hx : xs[k]? = some x) (ha : a + k < l.length) : (layK l a xs k).set (a + k) x = layK l a xs (k + 1) := by
  have hk : k < xs.length := (List.getElem?_eq_some_iff.1 hx).1
  have he : xs[k] = x := (List.getElem?_eq_some_iff.1 hx).2
  unfold layK
  rw [List.set_append_right _ _ (by simp; omega), List.take_succ_eq_append_getElem hk, he]
  have hl : (List.take a l ++ List.take k xs).length = a + k := by simp; omega
  rw [hl, Nat.sub_self, List.drop_eq_getElem_cons ha, List.set_cons_zero]
  simp [Nat.add_assoc]
theorem layK_get {α : Type} (l : List α) (a : Nat) (xs : List α) (k i : Nat) (hi : a + k ≤ i) (hk : k ≤ xs.length) (ha : a + k ≤ l.length) : (layK l a xs k)[i]? = l[i]? := by
  unfold layK
  rw [List.getElem?_append_right (by simp; omega), List.getElem?_drop]
  congr 1
  simp; omega
def clash (s : Ses) (f : Frm) : Bool := (List.range f.data.length).any fun i => s.got.getD (f.at_.toNat + i) false && (s.data.getD (f.at_.toNat + i) 0 != f.data.getD i 0)
def argBad (s : Ses) (f : Frm) : Prop := f.data.length = 0 ∨ f.at_ < 0 ∨ s.size < f.data.length ∨ s.size - f.data.length < f.at_
instance (s : Ses) (f : Frm) : Decidable (argBad s f) := by unfold argBad; infer_instance
def chunkE (s : Ses) (f : Frm) : Int := if f.id ≠ s.id then 2 else if argBad s f then 1 else if clash s f = true then 10 else 0
def chunkS (s : Ses) (f : Frm) : Ses := if chunkE s f = 0 then { s with data := layK s.data f.at_.toNat f.data f.data.length, got := layK s.got f.at_.toNat (List.replicate f.data.length true) f.data.length } else s
theorem setCell_twice (w : World) (g o : Nat) (v v' : Value) : (w.setCell ⟨g, o, none⟩ v).setCell ⟨g, o, none⟩ v' = w.setCell ⟨g, o, none⟩ v' := by
  unfold World.setCell
  congr 1
  apply Array.ext
  · simp
  · intro i h1 h2
    simp only [Array.getElem_modify]
    by_cases hg : g = i
    · simp only [hg, if_true]
      have hi : i < w.heap.size := by simpa using h2
      generalize w.heap[i]'hi = x
      cases x <;> simp
    · simp only [hg, if_false]
/-- the block that the slice lies in is of this element's type -/
def Ty (w : World) (e : TypeId) (v : Value) : Prop := ∀ b o n c, v = .slice (some ⟨b, o, none⟩) n c → ∃ cs, w.heap[b]? = some (.cells cs e (0, 0))
theorem Ty.own {w : World} {base : Nat} {e : TypeId} {size : Nat} {v : Value} {n : Nat} {xs : List Value} (h : w.ownsRow base e size v n xs) : Ty w e v := by
  rcases h.2 with ⟨rfl, _⟩ | ⟨g, cap, cur, rfl, hg, hh, _⟩
  · intro b o n c e; cases e
  · intro b o n c e; cases e; exact ⟨_, hh⟩
theorem Ty.keep {w w' : World} {e : TypeId} {v : Value} (h : Ty w e v) (hb : Below w.heap.size w w') : Ty w' e v := fun b o n c ev => by
  obtain ⟨cs, hc⟩ := h b o n c ev
  exact ⟨cs, below_atK hb hc⟩
theorem Ty.ne {w : World} {e e' : TypeId} {v : Value} (h : Ty w e v) {g : Nat} {cs : Array Value} (hg : w.heap[g]? = some (.cells cs e' (0, 0))) (hne : e ≠ e') : ∀ b o n c, v = .slice (some ⟨b, o, none⟩) n c → b ≠ g := fun b o n c ev hb => by
  obtain ⟨cs', hc⟩ := h b o n c ev
  rw [hb, hg] at hc
  injection hc with hc
  injection hc with _ h2 _
  exact hne h2.symm
def ChunkO (s : Ses) (f : Frm) (w : World) (e : Ending) (w' : World) : Prop := ∃ D' G', e = .returned (.tuple #[.agg (sesV (chunkS s f) D' G').toArray, .int .i64 (chunkE s f)]) ∧ SesM w' (chunkS s f) D' G' ∧ Below w.heap.size w w' ∧ Fr w.heap.size D' ∧ Fr w.heap.size G' ∧ Ty w' 5 D' ∧ Ty w' 4 G'
def ChunkP (s : Ses) (f : Frm) (w : World) (e : Ending) (w' : World) : Prop := ∃ D' G', e = .returned (.tuple #[.agg (sesV (chunkS s f) D' G').toArray, .int .i64 (chunkE s f)]) ∧ SesM w' (chunkS s f) D' G' ∧ Below w.heap.size w w' ∧ Fr w.heap.size D' ∧ Fr w.heap.size G'
theorem chunkS_err {s : Ses} {f : Frm} (h : chunkE s f ≠ 0) : chunkS s f = s := if_neg h
theorem own_ses {w : World} {B n : Nat} {s : Ses} {D G : Value} (h : OwnM w B s D G n) : SesM w s D G := by
  obtain ⟨A1, c1, rfl, a1, a2, a3, _⟩ := own_slice h.data
  obtain ⟨A2, c2, rfl, b1, b2, b3, _⟩ := own_slice h.got
  exact ⟨h.id, h.size, h.sum, ⟨_, _, _, rfl, a3, a1, by simpa [maxLen] using a2⟩, ⟨_, _, _, rfl, b3, b1, by simpa [maxLen] using b2⟩⟩
theorem own_apart {w : World} {B n c c' g g' : Nat} {xs ys : List Value} {e e' : TypeId} (hne : e ≠ e') (h : w.ownsRow B e 1 (.slice (some ⟨g, 0, none⟩) n c) n xs) (h' : w.ownsRow B e' 1 (.slice (some ⟨g', 0, none⟩) n c') n ys) : g ≠ g' := by
  intro hg
  subst hg
  rcases h.2 with ⟨h1, _⟩ | ⟨_, _, _, h1, _, h2, _⟩
  · cases h1
  rcases h'.2 with ⟨h1', _⟩ | ⟨_, _, _, h1', _, h2', _⟩
  · cases h1'
  injection h1 with h1 _ _
  injection h1 with h1
  injection h1 with h1
  injection h1' with h1' _ _
  injection h1' with h1'
  injection h1' with h1'
  subst h1
  subst h1'
  rw [h2] at h2'
  injection h2' with h2'
  injection h2' with _ h3 _
  exact hne h3
theorem own_drew {w : World} {base : Nat} {e : TypeId} {size : Nat} {v : Value} {n : Nat} {xs : List Value} (h : w.ownsRow base e size v n xs) : w.drew.ownsRow base e size v n xs := h
/-- a store into another row leaves it -/
theorem own_farCell {w : World} {base : Nat} {e : TypeId} {size n c g : Nat} {xs : List Value} (h : w.ownsRow base e size (.slice (some ⟨g, 0, none⟩) n c) n xs) {p : Addr} (hp : g ≠ p.block) (u : Value) : (w.setCell p u).ownsRow base e size (.slice (some ⟨g, 0, none⟩) n c) n xs := by
  refine ⟨h.1, ?_⟩
  rcases h.2 with h2 | ⟨g', cap, cur, hv, hg, hh, r⟩
  · exact .inl h2
  · have hgg : g = g' := by injection hv with hv _ _; injection hv with hv; injection hv
    exact .inr ⟨g', cap, cur, hv, hg, by rw [Below.heap_setCell _ _ _ _ (by rw [← hgg]; exact hp)]; exact hh, r⟩
theorem own_store {w : World} {base : Nat} {e : TypeId} {n c g : Nat} {xs : List Value} (h : w.ownsRow base e 1 (.slice (some ⟨g, 0, none⟩) n c) n xs) (j : Nat) (u : Value) : (w.setCell ⟨g, j, none⟩ u).ownsRow base e 1 (.slice (some ⟨g, 0, none⟩) n c) n (xs.set j u) := (h.stored j u).1
theorem own_at {w : World} {base : Nat} {e : TypeId} {n c g : Nat} {xs : List Value} (h : w.ownsRow base e 1 (.slice (some ⟨g, 0, none⟩) n c) n xs) {j : Nat} {u : Value} (hu : xs[j]? = some u) : w.cell? ⟨g, j, none⟩ = some u := by
  have := (Vs.of_own h).cellAt hu
  rwa [Nat.zero_add] at this
theorem own_free {w : World} {base : Nat} {e : TypeId} {n c g j : Nat} {xs : List Value} (h : w.ownsRow base e 1 (.slice (some ⟨g, 0, none⟩) n c) n xs) : w.frozen? ⟨g, j, none⟩ = false := by
  rcases h.2 with ⟨h1, _⟩ | ⟨g', cap, cur, hv, _, hh, _⟩
  · cases h1
  · injection hv with hv _ _
    injection hv with hv
    injection hv with hv
    subst hv
    exact free_of_block hh
end Go.Proofs.Ytonjpjiphcbemaa
