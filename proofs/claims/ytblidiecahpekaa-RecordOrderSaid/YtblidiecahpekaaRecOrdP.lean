/- RecordOrder: the plain law, and the memory of its walk: six rows and their free pages beside a flash memory. -/
import Derived.Test.YtblidiecahpekaaRecLaws
import Derived.Test.YtblidiecahpekaaRecLoad
import Derived.Test.YtblidiecahpekaaRecKnown
set_option linter.unusedVariables false
set_option linter.unusedSimpArgs false
namespace Go.Proofs.Ytblidiecahpekaa
open Go.RowKit

structure OrdF (f : FlashSt) (ws : List (List (List UInt8))) : Prop where
  live : Live f
  len : ws.length = 6
  pack : ∀ s : Nat, s < 6 → Packed (readF f (s : Int)) (ws.getD s [])
def ws0 : List (List (List UInt8)) := [[], [], [], [], [], []]
theorem ord_new : OrdF newF ws0 := ⟨live_new, rfl, fun s hs => by
  have h : ws0.getD s [] = [] := by
    rcases (by omega : s = 0 ∨ s = 1 ∨ s = 2 ∨ s = 3 ∨ s = 4 ∨ s = 5) with rfl | rfl | rfl | rfl | rfl | rfl <;> rfl
  rw [h]; exact packed_new s hs⟩
theorem getD_setK {α : Type} (l : List α) (d x : α) (s t : Nat) (hs : s < l.length) : (l.set s x).getD t d = if s = t then x else l.getD t d := by
  simp only [List.getD_eq_getElem?_getD]
  by_cases h : s = t
  · subst h; rw [if_pos rfl, List.getElem?_set_self hs]; rfl
  · rw [if_neg h, List.getElem?_set_ne h]
theorem OrdF.full {f : FlashSt} {ws : List (List (List UInt8))} (h : OrdF f ws) {s : Nat} (hs : s < 6) {b : List UInt8} (hb : b.length ≤ 1018) (hu : 64 < usedP (ws.getD s []) + pagesN b.length) : appendP f (s : Int) b = (4, f) :=
  append_full f s hs _ (h.pack s hs) b hb hu
theorem OrdF.next {f : FlashSt} {ws : List (List (List UInt8))} (h : OrdF f ws) {s : Nat} (hs : s < 6) {b : List UInt8} (hb : b.length ≤ 1018) (hu : usedP (ws.getD s []) + pagesN b.length ≤ 64) :
    ∃ f', appendP f (s : Int) b = (0, f') ∧ OrdF f' (ws.set s (ws.getD s [] ++ [b])) := by
  obtain ⟨f', h1, h2, h3, h4⟩ := append_packed f h.live s hs _ (h.pack s hs) b hb hu
  refine ⟨f', h1, h2, by rw [List.length_set]; exact h.len, fun t ht => ?_⟩
  rw [getD_setK _ _ _ _ _ (by rw [h.len]; exact hs)]
  by_cases he : s = t
  · subst he; rw [if_pos rfl]; exact h3
  · rw [if_neg he, h4 t ht (fun e => he e.symm)]; exact h.pack t ht

/-! ### memory -/
/-- another block was written, one that holds no bytes -/
theorem PsY.typed {W W' : World} {xs : List Value} {ls : List (List UInt8)} (h : PsY W xs ls) {k : Nat} {cs : Array Value} {t : TypeId} {fr : Nat × Nat} (hg : W.grownBy W' (some k)) (hk : W.heap[k]? = some (.cells cs t fr)) (ht : t ≠ 5) : PsY W' xs ls :=
  ⟨h.1, fun i hi => by
    obtain ⟨B, m, c, e, hB, h1, h2, hty⟩ := h.2 i hi
    have key : ∀ b o, B = some ⟨b, o, none⟩ → W'.heap[b]? = W.heap[b]? := fun b o e => by
      obtain ⟨cs', hc⟩ := hty b o e
      refine hg.block b (Array.getElem?_eq_some_iff.1 hc).1 fun hbk => ?_
      injection hbk with hbk
      subst hbk
      rw [hk] at hc
      injection hc with hc
      injection hc with _ h' _
      exact ht h'
    exact ⟨B, m, c, e, hB.heap fun _ => key, h1, h2, fun b o e => by rw [key b o e]; exact hty b o e⟩⟩
def intsV (fr : List Nat) : List Value := fr.map fun (n : Nat) => .int .i64 (n : Int)
structure OrdM (w0 W : World) (B g bw bf : Nat) (f : FlashSt) (vs : List Value) (ws : List (List (List UInt8))) (fr : List Nat) : Prop where
  bel : Below w0.heap.size w0 W
  flash : FS NoB W g f
  want : W.heap[bw]? = some (.cells vs.toArray 30 (0, 0))
  free : W.heap[bf]? = some (.cells (intsV fr).toArray 31 (0, 0))
  vlen : vs.length = 6
  wlen : ws.length = 6
  flen : fr.length = 6
  row : ∀ s, s < 6 → ∃ n xs, W.ownsRow B 32 1 (vs.getD s undef) n xs ∧ PsY W xs (ws.getD s [])
  apart : ∀ s t, s < 6 → t < 6 → s ≠ t → (vs.getD s undef).ownBlock = none ∨ (vs.getD s undef).ownBlock ≠ (vs.getD t undef).ownBlock
  ord : w0.heap.size ≤ g ∧ g < bw ∧ bw < bf ∧ bf < B ∧ B ≤ W.heap.size
section
variable {w0 W W' : World} {B g bw bf : Nat} {f : FlashSt} {vs : List Value} {ws : List (List (List UInt8))} {fr : List Nat}
theorem OrdM.next (h : OrdM w0 W B g bw bf f vs ws fr) (hb : Below W.heap.size W W') : OrdM w0 W' B g bw bf f vs ws fr :=
  ⟨below_then h.bel hb h.bel.size, h.flash.below hb, by rw [hb.block bw (Array.getElem?_eq_some_iff.1 h.want).1]; exact h.want, by rw [hb.block bf (Array.getElem?_eq_some_iff.1 h.free).1]; exact h.free, h.vlen, h.wlen, h.flen,
   fun s hs => by obtain ⟨n, xs, h1, h2⟩ := h.row s hs; exact ⟨n, xs, own_below h1 hb, h2.below hb⟩, h.apart, by obtain ⟨a, b, c, d, e⟩ := h.ord; exact ⟨a, b, c, d, Nat.le_trans e hb.size⟩⟩
theorem own_low {w w' : World} {B k : Nat} {e : TypeId} {size : Nat} {v : Value} {n : Nat} {xs : List Value} (h : w.ownsRow B e size v n xs) (hg : w.grownBy w' (some k)) (hk : k < B) : w'.ownsRow B e size v n xs := by
  refine h.kept hg ?_
  cases hv : v.ownBlock with
  | none => exact .inl rfl
  | some j =>
    right
    intro hj
    injection hj with hj
    have := (h.lt j hv).1
    omega
theorem FS.cells {Q : Nat → Prop} (h : FS Q W g f) : ∃ cs, W.heap[g]? = some (.cells cs 50 (0, 0)) := by
  obtain ⟨A, n, c, hg, _⟩ := h
  exact ⟨_, hg⟩
theorem OrdM.wrote {f' : FlashSt} (h : OrdM w0 W B g bw bf f vs ws fr) (hF : FS NoB W' g f') (hg : W.grownBy W' (some g)) : OrdM w0 W' B g bw bf f' vs ws fr := by
  obtain ⟨a, b, c, d, e⟩ := h.ord
  obtain ⟨cs, hcs⟩ := h.flash.cells
  exact ⟨below_grown h.bel hg h.bel.size a, hF, by rw [hg.block bw (Array.getElem?_eq_some_iff.1 h.want).1 (fun h => by injection h; omega)]; exact h.want, by rw [hg.block bf (Array.getElem?_eq_some_iff.1 h.free).1 (fun h => by injection h; omega)]; exact h.free, h.vlen, h.wlen, h.flen,
    fun s hs => by obtain ⟨n, xs, h1, h2⟩ := h.row s hs; exact ⟨n, xs, own_low h1 hg (by omega), h2.typed hg hcs (by decide)⟩, h.apart, ⟨a, b, c, d, Nat.le_trans e hg.size⟩⟩
theorem intsV_at (h : OrdM w0 W B g bw bf f vs ws fr) {s : Nat} (hs : s < 6) : W.cell? ⟨bf, s, none⟩ = some (.int .i64 ((fr.getD s 0 : Nat) : Int)) := by
  refine cell_of_block h.free ?_
  rw [List.getElem?_toArray]
  simp [intsV, List.getD_eq_getElem?_getD, List.getElem?_eq_getElem (show s < fr.length by rw [h.flen]; exact hs)]
theorem wantV_at (h : OrdM w0 W B g bw bf f vs ws fr) {s : Nat} (hs : s < 6) : W.cell? ⟨bw, s, none⟩ = some (vs.getD s undef) := by
  refine cell_of_block h.want ?_
  rw [List.getElem?_toArray, List.getD_eq_getElem?_getD, List.getElem?_eq_getElem (show s < vs.length by rw [h.vlen]; exact hs)]
  rfl
theorem OrdM.want' (h : OrdM w0 W B g bw bf f vs ws fr) {v : Value} {n : Nat} {xs : List Value} (hown : W.ownsRow B 32 1 v n xs) (hg : W.grownBy W' v.ownBlock) : W'.heap[bw]? = some (.cells vs.toArray 30 (0, 0)) := by
  obtain ⟨a, b, c0, d, e⟩ := h.ord
  rw [hg.block bw (by omega) fun hh => by
    have := (hown.lt bw hh.symm).1
    omega]
  exact h.want
/-- the free pages of a row are written -/
theorem OrdM.setFree (h : OrdM w0 W B g bw bf f vs ws fr) (s n : Nat) : OrdM w0 (W.setCell ⟨bf, s, none⟩ (.int .i64 (n : Int))) B g bw bf f vs ws (fr.set s n) := by
  obtain ⟨a, b, c, d, e⟩ := h.ord
  have hg := grown_set W bf s (.int .i64 (n : Int))
  refine ⟨below_grown h.bel hg h.bel.size (by omega), h.flash.other hg (by omega) (noB bf), by rw [hg.block bw (Array.getElem?_eq_some_iff.1 h.want).1 (fun h => by injection h; omega)]; exact h.want, ?_, h.vlen, h.wlen, by rw [List.length_set]; exact h.flen,
    fun t ht => by obtain ⟨n, xs, h1, h2⟩ := h.row t ht; exact ⟨n, xs, own_low h1 hg (by omega), h2.typed hg h.free (by decide)⟩, h.apart, ⟨a, b, c, d, Nat.le_trans e hg.size⟩⟩
  have := block_setCell (i := s) (.int .i64 (n : Int)) h.free
  rw [List.setIfInBounds_toArray] at this
  rw [this]
  unfold intsV
  rw [List.map_set]
/-- a row has grown, and was laid down -/
theorem OrdM.grew (h : OrdM w0 W B g bw bf f vs ws fr) {s : Nat} (hs : s < 6) {n m c : Nat} {xs : List Value} {A : Option Addr} {l : List UInt8} {v' : Value} (hown : W.ownsRow B 32 1 (vs.getD s undef) n xs) (hps : PsY W xs (ws.getD s []))
    (hA : Bs W A m l) (hm : m ≤ c) (hc : c ≤ 9223372036854775807) (hT : TyB W A) (hg : W.grownBy W' (vs.getD s undef).ownBlock) (ho : W'.ownsRow B 32 1 v' (n + 1) (xs ++ [.slice A m c])) (hv : v'.ownBlock = (vs.getD s undef).ownBlock ∨ v'.ownBlock = some W.heap.size) :
    OrdM w0 (W'.setCell ⟨bw, s, none⟩ v') B g bw bf f (vs.set s v') (ws.set s (ws.getD s [] ++ [l])) fr := by
  obtain ⟨a, b, c0, d, e⟩ := h.ord
  have hown0 := hown
  have hne : ∀ k, k < B → k < W.heap.size → W'.heap[k]? = W.heap[k]? := fun k hk hk2 => hg.block k hk2 fun hh => by
    have := (hown.lt k hh.symm).1
    omega
  have hkeep : ∀ (k : Nat), v'.ownBlock = some k → B ≤ k := fun k hk => (ho.lt k hk).1
  have hbel : Below w0.heap.size w0 W' := h.bel.grown hg h.bel.size fun k hk => by have := (hown.lt k hk).1; omega
  have hF : FS NoB W' g f := by
    obtain ⟨A1, n1, c1, hg1, h1, h2, h3, hB1, hn1, hc1, ha1⟩ := h.flash
    refine ⟨A1, n1, c1, by rw [hne g (by omega) (by omega)]; exact hg1, h1, h2, h3, ?_, hn1, hc1, ha1⟩
    refine ⟨hB1.1, fun h0 => ?_⟩
    obtain ⟨b1, o1, e1, _⟩ := hB1.2 h0
    exact (ha1 _ e1).elim
  have hset := grown_set W' bw s v'
  have hps' : ∀ t, t < 6 → ∀ ys, PsY W ys (ws.getD t []) → PsY W' ys (ws.getD t []) := fun t _ ys hy => hy.grown hg hown
  have hA' : Bs W' A m l ∧ TyB W' A := by
    have := (PsY.nil W).snoc hA hm hc hT
    have := this.grown hg hown
    obtain ⟨B2, m2, c2, e2, hB2, _, _, hT2⟩ := this.2 0 (by simp)
    simp at e2
    obtain ⟨rfl, rfl, rfl⟩ := e2
    exact ⟨hB2, hT2⟩
  have hwant' : W'.heap[bw]? = some (.cells vs.toArray 30 (0, 0)) := by rw [hne bw (by omega) (by omega)]; exact h.want
  refine ⟨hbel.setCell (p := ⟨bw, s, none⟩) (by show _ ≤ bw; omega) v', hF.other hset (by omega) (noB bw), ?_, ?_, by rw [List.length_set]; exact h.vlen, by rw [List.length_set]; exact h.wlen, h.flen, fun t ht => ?_, fun t u ht hu htu => ?_, ⟨a, b, c0, d, by rw [show (W'.setCell ⟨bw, s, none⟩ v').heap.size = W'.heap.size from by simp [World.setCell]]; exact Nat.le_trans e hg.size⟩⟩
  · have := block_setCell (i := s) v' hwant'
    rw [List.setIfInBounds_toArray] at this
    exact this
  · rw [Below.heap_setCell _ _ _ _ (by show bf ≠ bw; omega), hne bf (by omega) (by omega)]; exact h.free
  · rw [getD_setK _ _ _ _ _ (by rw [h.vlen]; exact hs), getD_setK _ _ _ _ _ (by rw [h.wlen]; exact hs)]
    by_cases hst : s = t
    · subst hst
      rw [if_pos rfl, if_pos rfl]
      refine ⟨n + 1, _, own_low ho hset (by omega), ?_⟩
      exact ((hps' s hs xs hps).snoc hA'.1 hm hc hA'.2).typed hset hwant' (by decide)
    · rw [if_neg hst, if_neg hst]
      obtain ⟨n2, ys, h1, h2⟩ := h.row t ht
      refine ⟨n2, ys, own_low (h1.kept hg (h.apart t s ht hs fun e => hst e.symm)) hset (by omega), (hps' t ht ys h2).typed hset hwant' (by decide)⟩
  · rw [getD_setK _ _ _ _ _ (by rw [h.vlen]; exact hs), getD_setK _ _ _ _ _ (by rw [h.vlen]; exact hs)]
    by_cases h1 : s = t
    · rw [if_pos h1, if_neg (fun e => htu (h1.symm.trans e))]
      rcases hv with hv | hv
      · rw [hv]; exact h.apart s u hs hu (fun e => htu (h1.symm.trans e))
      · right
        rw [hv]
        intro he
        obtain ⟨n2, ys, h3, _⟩ := h.row u hu
        have := (h3.lt _ he.symm).2
        omega
    · rw [if_neg h1]
      by_cases h2 : s = u
      · rw [if_pos h2]
        rcases hv with hv | hv
        · rw [hv]; exact h.apart t s ht hs (fun e => h1 e.symm)
        · cases hto : (vs.getD t undef).ownBlock with
          | none => exact .inl rfl
          | some k =>
            right
            rw [hv]
            intro he
            injection he with he
            obtain ⟨n2, ys, h3, _⟩ := h.row t ht
            have := (h3.lt _ hto).2
            omega
      · rw [if_neg h2]; exact h.apart t u ht hu htu
end
end Go.Proofs.Ytblidiecahpekaa
