/- Records as they were loaded: rows of slices whose blocks' types are known. A cut between two pieces of code: what stands behind the first, whatever way it took. No program in sight. All entries of a memory, the newest first. -/
import Derived.Test.YtkncomkncfcecaaRecLoad
import Derived.Test.YtkncomkncfcecaaKn
import Derived.Test.YtkncomkncfcecaaSlotIns
import Derived.Test.YtkncomkncfcecaaSlotPar
import Derived.Laws.EntriesVeiled
set_option linter.unusedVariables false
set_option linter.unusedSimpArgs false
namespace Go.Proofs.Ytkncomkncfcecaa
open Go.RowKit
theorem PsY.typed {W W' : World} {xs : List Value} {ls : List (List UInt8)} (h : PsY W xs ls) {k : Nat} {cs : Array Value} {t : TypeId} {fr : Nat × Nat} (hg : W.grownBy W' (some k)) (hk : W.heap[k]? = some (.cells cs t fr)) (ht : t ≠ 5) : PsY W' xs ls :=
  ⟨h.1, fun i hi => by
    obtain ⟨B, m, c, e, hB, h1, h2, hty⟩ := h.2 i hi
    have key : ∀ b o, B = some ⟨b, o, none⟩ → W'.heap[b]? = W.heap[b]? := fun b o e => by
      obtain ⟨cs', hc⟩ := hty b o e
      refine hg.block b (Array.getElem?_eq_some_iff.1 hc).1 fun hbk => ?_
      injection hbk with hbk
      subst hbk
      rw [hk] at hc
      injection hc with hc
      injection hc with _ h' _
      exact ht h'
    exact ⟨B, m, c, e, hB.heap fun _ => key, h1, h2, fun b o e => by rw [key b o e]; exact hty b o e⟩⟩
def PsT (W : World) (A : Option Addr) (n : Nat) (R : List (List UInt8)) : Prop := ∃ B0 c xs, W.ownsRow B0 32 1 (.slice A n c) n xs ∧ PsY W xs R
theorem PsT.ps {W : World} {A : Option Addr} {n : Nat} {R : List (List UInt8)} (h : PsT W A n R) : Ps W A n R := by
  obtain ⟨B0, c, xs, h1, h2⟩ := h
  obtain ⟨A', c', he, _, _, hv, _⟩ := ZP h1
  injection he with e1 _ e3
  subst e1
  exact h2.ps hv
theorem PsT.below {W W' : World} {A : Option Addr} {n : Nat} {R : List (List UInt8)} (h : PsT W A n R) (hb : Below W.heap.size W W') : PsT W' A n R := by
  obtain ⟨B0, c, xs, h1, h2⟩ := h
  exact ⟨B0, c, xs, Yx h1 hb, h2.below hb⟩
theorem PsT.next {W : World} {A : Option Addr} {n k : Nat} {R : List (List UInt8)} (h : PsT W A n R) (hk : k < n) :
    ∃ b o B m c l, A = some ⟨b, o, none⟩ ∧ W.cell? ⟨b, o + k, none⟩ = some (.slice B m c) ∧ Bs W B m l ∧ m ≤ c ∧ c ≤ 9223372036854775807 ∧ TyB W B ∧ R[k]? = some l := by
  have hl := h.ps.len
  obtain ⟨B0, c0, xs, h1, h2⟩ := h
  obtain ⟨A', c', he, _, _, hv, _⟩ := ZP h1
  injection he with e1 _ e3
  subst e1
  obtain ⟨B, m, c, hx, hB, hm, hc, ht⟩ := h2.2 k (by omega)
  obtain ⟨b, o, rfl, _⟩ := hv.at_ hk
  exact ⟨b, o, B, m, c, R[k], rfl, hv.cellAt hx, hB, hm, hc, ht, List.getElem?_eq_getElem (by omega)⟩
theorem PsT.grown {W W' : World} {A : Option Addr} {n : Nat} {R : List (List UInt8)} (h : PsT W A n R) {base size m : Nat} {e : TypeId} {v : Value} {ys : List Value} (hown : W.ownsRow base e size v m ys) (he1 : e ≠ 5) (he2 : e ≠ 32) (hg : W.grownBy W' v.ownBlock) : PsT W' A n R := by
  obtain ⟨B0, c, xs, h1, h2⟩ := h
  cases hv : v.ownBlock with
  | none =>
    rw [hv] at hg
    exact PsT.below ⟨B0, c, xs, h1, h2⟩ ⟨hg.os, hg.tape, hg.output, hg.size, fun i hi => hg.block i hi (by simp)⟩
  | some k =>
    rw [hv] at hg
    obtain ⟨cs, hk⟩ := own_ty hown hv
    refine ⟨B0, c, xs, h1.kept hg ?_, h2.typed hg hk he1⟩
    cases ha : (Value.slice A n c).ownBlock with
    | none => exact .inl rfl
    | some a =>
      right
      intro hak
      injection hak with hak
      subst hak
      obtain ⟨cs', hc'⟩ := own_ty h1 ha
      rw [hk] at hc'
      injection hc' with hc'
      injection hc' with _ ht _
      exact he2 ht
end Go.Proofs.Ytkncomkncfcecaa
set_option linter.unusedVariables false
set_option linter.unusedSimpArgs false
namespace Go.Proofs.Ytkncomkncfcecaa
open Go.RowKit
section
variable {P : Program} {Q : Exit → Act → World → Prop} {n : Nat} {L : Slots} {w : World}
def MidK (I : Slots → World → Prop) (n : Nat) (a : Act) (w : World) : Prop := ∃ L, I L w ∧ Kn n L a
theorem kw_cut {x y : Code} (I : Slots → World → Prop) (hx : KW P x (Exit.then (MidK I n) Q) n L w) (h : ∀ L w, I L w → KW P y Q n L w) : KW P (.seq x y) Q n L w := ⟨fun a k => wp_seq (Code.wp_mono (fun e a2 w2 hq => by
  cases e with
  | normal =>
    obtain ⟨L2, hI, k2⟩ := hq
    exact (h L2 w2 hI).h a2 k2
  | _ => exact hq) (hx.h a k))⟩
theorem kw_cutq {x y : Code} (I : Slots → World → Prop) (hx : KW P x (Exit.then (MidK I n) Q) n L w) (h : ∀ L w, I L w → KW P y Q n L w) : KW P x (Exit.then (y.wp P Q) Q) n L w := ⟨fun a k => Code.wp_mono (fun e a2 w2 hq => by
  cases e with
  | normal =>
    obtain ⟨L2, hI, k2⟩ := hq
    exact (h L2 w2 hI).h a2 k2
  | _ => exact hq) (hx.h a k)⟩
theorem YU {I : Slots → World → Prop} (ts : List Nat) (hI : I (nrm L ts) w) : KQ (Exit.then (MidK I n) Q) .normal n L w := ⟨fun a k => ⟨_, hI, k.less ts⟩⟩
end
end Go.Proofs.Ytkncomkncfcecaa
set_option linter.unusedVariables false
set_option linter.unusedSimpArgs false
namespace Go.Proofs.Ytkncomkncfcecaa
open Go.RowKit
attribute [local go_sem] Y1 Yl Yp ZT Yy Yo ZI ZO Yi ZN ZH ZU Ya
theorem loadF_short (b : List UInt8) : ∀ k p, ∀ x ∈ (loadF b k p).1, x.length ≤ 65535
  | 0, _, x, hx => by simp [loadF] at hx
  | k + 1, p, x, hx => by
    simp only [loadF] at hx
    split at hx
    · simp at hx
    · split at hx
      · simp at hx
      · split at hx
        · rcases List.mem_cons.1 hx with rfl | hx
          · exact Wu _
          · exact loadF_short b k _ x hx
        · simp at hx
theorem XV (b : List UInt8) : ∀ x ∈ (loadR b).1, x.length ≤ 65535 := fun x hx => by
  unfold loadR at hx
  split at hx
  · simp at hx
  · exact loadF_short _ _ _ x hx
/-! ### rows of places -/
def flatP (l : List Plc) : List Value := (l.map plcC).flatten
theorem flatP_cons (p : Plc) (l : List Plc) : flatP (p :: l) = plcC p ++ flatP l := rfl
theorem XE (l m : List Plc) : flatP (l ++ m) = flatP l ++ flatP m := by simp [flatP]
theorem flatP_len : ∀ (l : List Plc), (∀ p ∈ l, p.1.sum.length = 32) → (flatP l).length = l.length * 35
  | [], _ => rfl
  | p :: l, h => by rw [flatP_cons, List.length_append, Xi p (h p (by simp)), flatP_len l fun q hq => h q (by simp [hq]), List.length_cons]; omega
theorem flatP_take (l : List Plc) (k : Nat) (h : ∀ p ∈ l, p.1.sum.length = 32) (hk : k ≤ l.length) : (flatP l).take (k * 35) = flatP (l.take k) := by
  have h1 : flatP l = flatP (l.take k) ++ flatP (l.drop k) := by rw [← XE, List.take_append_drop]
  have h2 := flatP_len (l.take k) fun p hp => h p (List.mem_of_mem_take hp)
  rw [List.length_take, Nat.min_eq_left hk] at h2
  rw [h1, List.take_append_of_le_length (by omega), List.take_of_length_le (by omega)]
theorem flatP_drop (l : List Plc) (k : Nat) (h : ∀ p ∈ l, p.1.sum.length = 32) (hk : k ≤ l.length) : (flatP l).drop (k * 35) = flatP (l.drop k) := by
  have h1 : flatP l = flatP (l.take k) ++ flatP (l.drop k) := by rw [← XE, List.take_append_drop]
  have h2 := flatP_len (l.take k) fun p hp => h p (List.mem_of_mem_take hp)
  rw [List.length_take, Nat.min_eq_left hk] at h2
  rw [h1, List.drop_append_of_le_length (by omega), List.drop_of_length_le (by omega), List.nil_append]
theorem flatP_at : ∀ (l : List Plc) (i : Nat) (p : Plc), (∀ p ∈ l, p.1.sum.length = 32) → l[i]? = some p → ∀ j u, (plcC p)[j]? = some u → (flatP l)[i * 35 + j]? = some u := by
  intro l i p h hi j u hu
  have hil := (List.getElem?_eq_some_iff.1 hi).1
  have hj := (List.getElem?_eq_some_iff.1 hu).1
  have h1 := flatP_drop l i h (by omega)
  have h2 : l.drop i = p :: l.drop (i + 1) := by rw [List.drop_eq_getElem_cons hil, (List.getElem?_eq_some_iff.1 hi).2]
  rw [h2, flatP_cons] at h1
  have h3 : ((flatP l).drop (i * 35))[j]? = some u := by rw [h1, List.getElem?_append_left hj]; exact hu
  rwa [List.getElem?_drop] at h3
theorem flatP_one (l : List Plc) : ∀ u ∈ flatP l, u.oneCell' = true := fun u hu => by
  unfold flatP at hu
  obtain ⟨cs, hcs, hu⟩ := List.mem_flatten.1 hu
  obtain ⟨p, _, rfl⟩ := List.mem_map.1 hcs
  exact plc_one' p u hu
structure OwnPl (w : World) (base : Nat) (v : Value) (l : List Plc) : Prop where
  own : w.ownsRow base 72 35 v l.length (flatP l)
  sums : ∀ p ∈ l, p.1.sum.length = 32
theorem OwnPl.nil (w : World) (base : Nat) : OwnPl w base (.slice none 0 0) [] := ⟨World.ownsRow_nil _ _ _ _, by simp⟩
theorem OwnPl.below {w w' : World} {base : Nat} {v : Value} {l : List Plc} (h : OwnPl w base v l) (hb : Below w.heap.size w w') : OwnPl w' base v l := ⟨Yx h.own hb, h.sums⟩
theorem OwnPl.pls {w : World} {base : Nat} {v : Value} {l : List Plc} (h : OwnPl w base v l) : ∃ A c, v = .slice A l.length c ∧ PlS w A l.length l ∧ l.length ≤ c ∧ c ≤ 9223372036854775807 := by
  have ho := h.own
  rcases h.own.2 with ⟨h1, h2⟩ | ⟨g, cap, cur, h1, _, h3, h4, h5, _⟩
  · exact ⟨none, 0, by rw [h1, h2], ⟨rfl, fun hn => absurd hn (by omega), h.sums⟩, by omega, by omega⟩
  · subst h1
    refine ⟨_, cap, rfl, ⟨rfl, fun _ => ⟨g, 0, rfl, fun i p hp => ?_⟩, h.sums⟩, h4, by simpa [maxLen] using h5⟩
    rw [Nat.zero_add]
    exact own_mid ho i _ (flatP_at l i p h.sums hp)
theorem insP_at (x : Plc) : ∀ l : List Plc, ∃ k, k ≤ l.length ∧ insP x l = l.take k ++ [x] ++ l.drop k ∧ ((idxP x l = (k : Int) ∧ k < l.length) ∨ (idxP x l = -1 ∧ k = l.length))
  | [] => ⟨0, by simp, rfl, .inr ⟨rfl, rfl⟩⟩
  | y :: l => by
    cases h : newerP x y with
    | true => exact ⟨0, by simp, by simp [insP, h], .inl ⟨by simp [idxP, List.findIdx?_cons, h], by simp⟩⟩
    | false =>
      obtain ⟨k, hk, he, hi⟩ := insP_at x l
      refine ⟨k + 1, by simp; omega, by simp [insP, h, he], ?_⟩
      rcases hi with ⟨hi, hlt⟩ | ⟨hi, hlt⟩
      · refine .inl ⟨?_, by simp; omega⟩
        unfold idxP at hi ⊢
        rw [List.findIdx?_cons, h]
        cases hf : l.findIdx? (fun y => newerP x y) with
        | none => rw [hf] at hi; simp at hi
        | some j => rw [hf] at hi; simp at hi ⊢; omega
      · refine .inr ⟨?_, by simp; omega⟩
        unfold idxP at hi ⊢
        rw [List.findIdx?_cons, h]
        cases hf : l.findIdx? (fun y => newerP x y) with
        | none => rfl
        | some j => rw [hf] at hi; simp at hi
theorem insP_len (x : Plc) (l : List Plc) : (insP x l).length = l.length + 1 := by
  obtain ⟨k, hk, he, _⟩ := insP_at x l
  rw [he]; simp; omega
theorem OwnPl.ins {w' : World} {base : Nat} {v' : Value} {x : Plc} {l : List Plc} {k : Nat} (hs : ∀ p ∈ l, p.1.sum.length = 32) (hx : x.1.sum.length = 32) (hk : k ≤ l.length) (he : insP x l = l.take k ++ [x] ++ l.drop k)
    (h : w'.ownsRow base 72 35 v' (l.length + 1) ((flatP l).take (k * 35) ++ plcC x ++ (flatP l).drop (k * 35))) : OwnPl w' base v' (insP x l) := by
  refine ⟨?_, fun p hp => ?_⟩
  · rw [insP_len, he, XE, XE, ← flatP_take l k hs hk, ← flatP_drop l k hs hk]
    have : flatP [x] = plcC x := by simp [flatP]
    rw [this]; exact h
  · rcases (Vj _ _ _).1 hp with rfl | hp
    · exact hx
    · exact hs p hp
def allK (f : FlashSt) : Nat → List Plc
  | 0 => []
  | 1 => addP 0 [] (secE f 0)
  | _ => allP f
theorem allK_next (f : FlashSt) (s : Nat) (hs : s < 2) : addP (s : Int) (allK f s) (secE f (s : Int)) = allK f (s + 1) := by
  rcases (by omega : s = 0 ∨ s = 1) with rfl | rfl <;> rfl
theorem addP_len (s : Int) : ∀ (es : List EntS) (l : List Plc), (addP s l es).length = l.length + es.length
  | [], _ => rfl
  | e :: es, l => by
    show (addP s (insP (e, s) l) es).length = _
    rw [addP_len s es, insP_len, List.length_cons]; omega
theorem entsR_len (rs : List (List UInt8)) : (entsR rs).length ≤ rs.length := List.length_filterMap_le _ _
theorem secE_len (f : FlashSt) (s : Int) : (secE f s).length ≤ 64 := Nat.le_trans (entsR_len _) (loadR_cnt _)
theorem allK_len (f : FlashSt) (s : Nat) (hs : s < 2) : (allK f s).length ≤ 64 := by
  rcases (by omega : s = 0 ∨ s = 1) with rfl | rfl
  · simp [allK]
  · show (addP 0 [] (secE f 0)).length ≤ 64
    rw [addP_len]
    have := secE_len f 0
    simp; exact this
def AllP (Q : Nat → Prop) (g : Nat) (f : FlashSt) (w : World) (e : Ending) (w' : World) : Prop := ∃ v, e = .returned v ∧ OwnPl w' w.heap.size v (allP f) ∧ Below w.heap.size w w'
set_option maxRecDepth 100000 in
set_option maxHeartbeats 8000000 in
theorem all_any (Q : Nat → Prop) (g : Nat) (f : FlashSt) (w : World) (h : FS Q w g f) : Calls Try.prog 34 #[.pointer (some ⟨g, 0, none⟩)] w (AllP Q g f w) := by
  refine ZZ Try.func34 rfl Try.ntmps34 rfl [(0, .pointer (some ⟨g, 0, none⟩))] rfl ?_
  repeat (first | refine Zv ?_ | refine Zc ?_ | refine Zq ?_ | refine Zm ?_ | (first | refine Zb rfl rfl (.inl rfl) rfl rfl ?_ | refine Zb rfl rfl (.inr rfl) rfl rfl ?_ | refine Za rfl rfl (.inl rfl) rfl ?_ | refine Za rfl rfl (.inr rfl) rfl ?_))
  refine kl_alloc1 (v := .nilFunc) rfl rfl rfl (by kernel_rfl) rfl rfl fun g3 w1 he3 hs3 hb1 hx1 => ?_
  have c3 := hx1.cell
  have f3 := hx1.frozen
  ((first | refine Zn rfl rfl rfl fun K hK => ?_ | refine Zh rfl rfl rfl fun K hK => ?_); go_simp; (try go_bits); (first | refine hK _ _ ?_ | refine hK _ ?_); clear hK K)
  have hx2 := hx1.set funV
  have hg3 : w.heap.size ≤ g3 := by rw [he3.out]; exact Nat.le_refl _
  have hb2 := hb1.setCell (p := ⟨g3, 0, none⟩) hg3 funV
  have HX2 : Hid (Boxed (w1.setCell ⟨g3, 0, none⟩ funV) g3 95 funV ∧ Below w.heap.size w (w1.setCell ⟨g3, 0, none⟩ funV)) := ⟨hx2, hb2⟩
  clear hx1 hx2 hb1 hb2 c3 f3 he3 hs3
  refine Zq ?_
  refine Zm ?_
  change KW _ _ _ _ _ (w1.setCell ⟨g3, 0, none⟩ funV)
  generalize w1.setCell ⟨g3, 0, none⟩ funV = w2 at HX2 ⊢
  repeat (first | refine Zv ?_ | refine Zc ?_ | refine Zq ?_ | refine Zm ?_ | (first | refine Zb rfl rfl (.inl rfl) rfl rfl ?_ | refine Zb rfl rfl (.inr rfl) rfl rfl ?_ | refine Za rfl rfl (.inl rfl) rfl ?_ | refine Za rfl rfl (.inr rfl) rfl ?_))
  refine KW.less [0, 3, 4, 14] ?_
  simp only [nrm, lk, Nat.reduceBEq, cond_true, cond_false]
  refine Zs ?_
  refine Yw (fun mm L W => ∃ s v, s ≤ 2 ∧ mm = 2 - s ∧ Hid (Below w.heap.size w W) ∧ Hid (W.cell? ⟨g3, 0, none⟩ = some funV) ∧ Hid (OwnPl W w.heap.size v (allK f s)) ∧ Hid (g3 < W.heap.size) ∧ Hid (v.ownBlock ≠ some g3) ∧ L = [(0, .pointer (some ⟨g, 0, none⟩)), (3, .pointer (some ⟨g3, 0, none⟩)), (4, v), (14, .int .i64 (s : Int))]) ⟨0, .slice none 0 0, by omega, rfl, HX2.out.2, HX2.out.1.cell, OwnPl.nil _ _, HX2.out.1.lt, by show _ ≠ _; simp [Value.ownBlock], rfl⟩ ?_
  clear HX2
  rintro mm L W ⟨s, v, hs, rfl, hb, hc3, hO, hlt3, hne3, rfl⟩
  by_cases hlt : s < 2
  case neg =>
    obtain rfl : s = 2 := by omega
    have t1 : decide (((2 : Nat) : Int) < 2) = false := by decide
    have HO2 : Hid (OwnPl W w.heap.size v (allP f)) := hO
    clear hlt hO
    repeat (first | refine Zv ?_ | refine Zs ?_ | refine Zu ?_ | refine Zc ?_ | refine Zq ?_ | refine Zm ?_ | refine Zp ?_ | refine Zw ?_ | refine Zf ?_ | refine Zd rfl ?_ | refine Zj rfl ?_ | refine Ze ?_ | refine Z3 ?_ | refine Zk ?_ | refine Zg ?_ | refine Zi ?_ | refine Zy rfl ?_ | refine Zx rfl ?_ | refine Zz rfl rfl ?_ | refine Zt rfl rfl rfl rfl ?_ | refine Zr rfl rfl rfl ?_ | (first | refine Zb rfl rfl (.inl rfl) rfl rfl ?_ | refine Zb rfl rfl (.inr rfl) rfl rfl ?_ | refine Za rfl rfl (.inl rfl) rfl ?_ | refine Za rfl rfl (.inr rfl) rfl ?_) | ((first | refine Zn rfl rfl rfl fun K hK => ?_ | refine Zh rfl rfl rfl fun K hK => ?_); go_simp; (try go_bits); (first | refine hK _ _ ?_ | refine hK _ ?_); clear hK K))
    exact ZE rfl rfl ⟨v, rfl, HO2.out, hb.out⟩
  have t1 : decide ((s : Int) < 2) = true := by rw [decide_eq_true_eq]; omega
  have t1n : decide (s < 2) = true := decide_eq_true hlt
  obtain ⟨s1, hs1⟩ : ∃ s1, s + 1 = s1 := ⟨_, rfl⟩
  have k1 : (s : Int) + 1 = (s1 : Int) := by omega
  have k2 : (0 : Int) ≤ s1 := by omega
  have k3 : (s1 : Int) ≤ 64 := by omega
  have HI := Lib.hid (And.intro hs1 hlt)
  clear hs1
  repeat (first | refine Zv ?_ | refine Zs ?_ | refine Zc ?_ | refine Zq ?_ | refine Zm ?_ | refine Zy rfl ?_ | refine Zu ?_ | (first | refine Zb rfl rfl (.inl rfl) rfl rfl ?_ | refine Zb rfl rfl (.inr rfl) rfl rfl ?_ | refine Za rfl rfl (.inl rfl) rfl ?_ | refine Za rfl rfl (.inr rfl) rfl ?_) | ((first | refine Zn rfl rfl rfl fun K hK => ?_ | refine Zh rfl rfl rfl fun K hK => ?_); go_simp; (try go_bits); (first | refine hK _ _ ?_ | refine hK _ ?_); clear hK K))
  refine Z9 rfl rfl rfl Try.func52 rfl (by kernel_rfl) rfl ?_
  refine Calls.mono (load_anyT Q g f (s : Int) W (h.below hb.out)) ?_
  rintro e w3 ⟨B0, A2, n2, c2, xs2, rfl, ho2, hy2, hn2, hc2, hb3⟩
  refine ⟨_, rfl, ?_⟩
  have HC3 := Lib.hid (Keeps.of_below hb3 _ _ hc3.out)
  have HO3 := Lib.hid (hO.out.below hb3)
  have HL3 : Hid (g3 < w3.heap.size) := Nat.lt_of_lt_of_le hlt3.out hb3.size
  have HB3 := Lib.hid (Z1 hb.out hb3 hb.out.size)
  clear hc3 hO hlt3 hb3 hb t1 t1n
  obtain ⟨R, hR⟩ : ∃ R, (loadR (readF f (s : Int))).1 = R := ⟨_, rfl⟩
  have hshort := XV (readF f (s : Int))
  have hcnt := loadR_cnt (readF f (s : Int))
  rw [hR] at hy2 hshort hcnt
  have hp2 : PsT w3 A2 n2 R := ⟨B0, c2, xs2, ho2, hy2⟩
  clear ho2 hy2
  have HR : Hid (secE f (s : Int) = entsR R) := by show _ = _; rw [← hR]; rfl
  have HS := Lib.hid hshort
  have hl2 := hp2.ps.len
  have hn64 : n2 ≤ 64 := by omega
  have HP2 := Lib.hid hp2
  have hal := allK_len f s hlt
  have HAL := Lib.hid hal
  clear hR hshort hcnt hp2 hal
  repeat (first | refine Zv ?_ | refine Zc ?_ | refine Zq ?_ | refine Zm ?_ | (first | refine Zb rfl rfl (.inl rfl) rfl rfl ?_ | refine Zb rfl rfl (.inr rfl) rfl rfl ?_ | refine Za rfl rfl (.inl rfl) rfl ?_ | refine Za rfl rfl (.inr rfl) rfl ?_) | ((first | refine Zn rfl rfl rfl fun K hK => ?_ | refine Zh rfl rfl rfl fun K hK => ?_); go_simp; (try go_bits); (first | refine hK _ _ ?_ | refine hK _ ?_); clear hK K))
  refine KW.less [0, 3, 4, 14, 5, 23, 24, 25] ?_
  simp only [nrm, lk, Nat.reduceBEq, cond_true, cond_false]
  refine Zs ?_
  refine Yw (fun mm L W3 => ∃ k v, k ≤ n2 ∧ mm = n2 - k ∧ Hid (Below w.heap.size w W3) ∧ Hid (W3.cell? ⟨g3, 0, none⟩ = some funV) ∧ Hid (OwnPl W3 w.heap.size v (addP (s : Int) (allK f s) (entsR (R.take k)))) ∧ Hid (g3 < W3.heap.size) ∧ Hid (v.ownBlock ≠ some g3) ∧ Hid (PsT W3 A2 n2 R) ∧ L = [(0, .pointer (some ⟨g, 0, none⟩)), (3, .pointer (some ⟨g3, 0, none⟩)), (4, v), (14, .int .i64 (s : Int)), (5, .int .i64 (s : Int)), (23, .slice A2 n2 c2), (24, .int .i64 (n2 : Int)), (25, .int .i64 (k : Int))]) ⟨0, v, by omega, rfl, HB3, HC3, HO3, HL3, hne3, HP2, rfl⟩ ?_
  clear HB3 HC3 HO3 HL3 hne3 HP2
  rintro mm L W3 ⟨k, v, hk, rfl, hb, hc3, hO, hlt3, hne3, hps, rfl⟩
  by_cases hkn : k < n2
  case neg =>
    obtain rfl : k = n2 := by omega
    have t1 : decide ((k : Int) < (k : Int)) = false := by simp
    have t1n : decide (k < k) = false := by simp
    have HO4 : Hid (OwnPl W3 w.heap.size v (allK f s1)) := by
      have h1 := hO.out
      rw [List.take_of_length_le (by omega), ← HR.out, allK_next f s HI.out.2, HI.out.1] at h1
      exact h1
    clear hkn hO
    repeat (first | refine Zv ?_ | refine Zc ?_ | refine Zq ?_ | refine Zm ?_ | refine Zp ?_ | refine Zx rfl ?_ | refine Zw ?_ | refine Zf ?_ | refine Zd rfl ?_ | refine Zu ?_ | (first | refine Zb rfl rfl (.inl rfl) rfl rfl ?_ | refine Zb rfl rfl (.inr rfl) rfl rfl ?_ | refine Za rfl rfl (.inl rfl) rfl ?_ | refine Za rfl rfl (.inr rfl) rfl ?_) | ((first | refine Zn rfl rfl rfl fun K hK => ?_ | refine Zh rfl rfl rfl fun K hK => ?_); go_simp; (try go_bits); (first | refine hK _ _ ?_ | refine hK _ ?_); clear hK K))
    refine Yk (2 - s1) [0, 3, 4, 14] (by have := HI.out; omega) ?_
    exact ⟨s1, v, by have := HI.out; omega, rfl, hb, hc3, HO4, hlt3, hne3, rfl⟩
  have t1 : decide ((k : Int) < (n2 : Int)) = true := by rw [decide_eq_true_eq]; omega
  have t1n : decide (k < n2) = true := decide_eq_true hkn
  have u0 : (0 : Int) ≤ k := by omega
  have u1 : (k : Int) < n2 := by omega
  obtain ⟨nk, hnk⟩ : ∃ nk, k + 1 = nk := ⟨_, rfl⟩
  have i3 : (k : Int) + 1 = (nk : Int) := by omega
  have i4 : (0 : Int) ≤ nk := by omega
  have i5 : (nk : Int) ≤ 65 := by omega
  have HNK := Lib.hid (And.intro hnk hkn)
  obtain ⟨bA, oA, Bk, mk, ck, rk, rfl, hcell, hBk, hmk, hck, hx1, hx2⟩ := hps.out.ps.next hkn
  have hrk : rk.length ≤ 65535 := HS.out rk (List.mem_of_getElem? hx2.out)
  have hbl := hBk.len
  have HBK := Lib.hid hBk
  clear hnk hBk
  repeat (first | refine Zv ?_ | refine Zs ?_ | refine Zc ?_ | refine Zq ?_ | refine Zm ?_ | refine Zy rfl ?_ | refine Zu ?_ | (first | refine Zb rfl rfl (.inl rfl) rfl rfl ?_ | refine Zb rfl rfl (.inr rfl) rfl rfl ?_ | refine Za rfl rfl (.inl rfl) rfl ?_ | refine Za rfl rfl (.inr rfl) rfl ?_) | ((first | refine Zn rfl rfl rfl fun K hK => ?_ | refine Zh rfl rfl rfl fun K hK => ?_); go_simp; (try go_bits); (first | refine hK _ _ ?_ | refine hK _ ?_); clear hK K))
  refine Z9 rfl rfl rfl Try.func53 rfl (by kernel_rfl) rfl ?_
  refine Calls.mono (parseE_any Bk mk ck rk W3 HBK.out (by omega) hmk hck) ?_
  rintro e w5 ⟨rfl, hb5⟩
  refine ⟨_, rfl, ?_⟩
  have HC5 := Lib.hid (Keeps.of_below hb5 _ _ hc3.out)
  have HO5 := Lib.hid (hO.out.below hb5)
  have HL5 : Hid (g3 < w5.heap.size) := Nat.lt_of_lt_of_le hlt3.out hb5.size
  have HB5 := Lib.hid (Z1 hb.out hb5 hb.out.size)
  have HPS5 := Lib.hid (hps.out.below hb5)
  have hsum := parseE_len rk
  have hpk : entsR (R.take nk) = entsR (R.take k) ++ (pickE (parseE rk)).toList := by rw [← HNK.out.1, hx1.out, entsR_snoc]
  obtain ⟨⟨e, er⟩, hpe⟩ : ∃ r, parseE rk = r := ⟨_, rfl⟩
  rw [hpe] at hsum hpk ⊢
  dsimp only at hsum ⊢
  have HPK := Lib.hid hpk
  have HSUM := Lib.hid hsum
  clear hc3 hO hlt3 hb hps hb5 hcell HBK hpe hpk hsum t1 t1n
  repeat (first | (first | refine Zb rfl rfl (.inl rfl) rfl rfl ?_ | refine Zb rfl rfl (.inr rfl) rfl rfl ?_ | refine Za rfl rfl (.inl rfl) rfl ?_ | refine Za rfl rfl (.inr rfl) rfl ?_) | ((first | refine Zn rfl rfl rfl fun K hK => ?_ | refine Zh rfl rfl rfl fun K hK => ?_); go_simp; (try go_bits); (first | refine hK _ _ ?_ | refine hK _ ?_); clear hK K))
  refine XH (z := (entC entZ).toArray) (cells := (entC e).toArray) (Lay.start w5) entZero (entInfo e HSUM.out) (by rw [List.size_toArray, List.size_toArray, ZR entZ ZL, ZR e HSUM.out]) (Yu e) rfl rfl rfl rfl rfl rfl rfl rfl rfl ?_
  intro g10 w6 hg10 hb6 L6
  have HC6 := Lib.hid (Keeps.of_below hb6 _ _ HC5.out)
  have HO6 := Lib.hid (HO5.out.below hb6)
  have HL6 : Hid (g3 < w6.heap.size) := Nat.lt_of_lt_of_le HL5.out hb6.size
  have HB6 := Lib.hid (Z1 HB5.out hb6 HB5.out.size)
  have HPS6 := Lib.hid (HPS5.out.below hb6)
  have L6 := Lib.hid L6
  clear HC5 HO5 HL5 HB5 HPS5 hb6 hg10
  by_cases her : er = 0
  case neg =>
    have t2 : (er != 0) = true := bne_iff_ne.2 her
    have HO7 : Hid (OwnPl w6 w.heap.size v (addP (s : Int) (allK f s) (entsR (R.take nk)))) := by
      have h1 := HPK.out
      unfold pickE at h1
      rw [if_neg her] at h1
      show OwnPl _ _ _ _
      rw [h1]
      simp only [Option.toList_none, List.append_nil]
      exact HO6.out
    clear her HO6
    repeat (first | refine Zv ?_ | refine Zc ?_ | refine Zq ?_ | refine Zm ?_ | refine Zp ?_ | refine Zy rfl ?_ | refine Zw ?_ | refine Zf ?_ | refine Zd rfl ?_ | refine Zu ?_ | (first | refine Zb rfl rfl (.inl rfl) rfl rfl ?_ | refine Zb rfl rfl (.inr rfl) rfl rfl ?_ | refine Za rfl rfl (.inl rfl) rfl ?_ | refine Za rfl rfl (.inr rfl) rfl ?_) | ((first | refine Zn rfl rfl rfl fun K hK => ?_ | refine Zh rfl rfl rfl fun K hK => ?_); go_simp; (try go_bits); (first | refine hK _ _ ?_ | refine hK _ ?_); clear hK K))
    refine Yk (n2 - nk) [0, 3, 4, 14, 5, 23, 24, 25] (by have := HNK.out; omega) ?_
    exact ⟨nk, v, by have := HNK.out; omega, rfl, HB6, HC6, HO7, HL6, hne3, HPS6, rfl⟩
  subst her
  have t2 : ((0 : Int) != 0) = false := rfl
  have LG := L6.out
  repeat (first | refine Zv ?_ | refine Zc ?_ | refine Zq ?_ | refine Zm ?_ | refine Zx rfl ?_ | refine Zu ?_ | (first | refine Zb rfl rfl (.inl rfl) rfl rfl ?_ | refine Zb rfl rfl (.inr rfl) rfl rfl ?_ | refine Za rfl rfl (.inl rfl) rfl ?_ | refine Za rfl rfl (.inr rfl) rfl ?_) | refine Wf LG 0 rfl Try.underlying31 rfl (entInfo e HSUM.out) rfl rfl rfl rfl rfl ?_ | ((first | refine Zn rfl rfl rfl fun K hK => ?_ | refine Zh rfl rfl rfl fun K hK => ?_); go_simp; (try go_bits); (first | refine hK _ _ ?_ | refine hK _ ?_); clear hK K))
  refine Yr 72 _ (plcC (e, (s : Int))).toArray rfl rfl rfl (by rfl) (by rfl) (plcBuilt e HSUM.out s) ?_
  refine XH (z := (plcC (entZ, 0)).toArray) (cells := (plcC (e, (s : Int))).toArray) LG plcZero (plcInfo (e, (s : Int)) HSUM.out) (by rw [List.size_toArray, List.size_toArray, Xi (entZ, 0) ZL, Xi (e, (s : Int)) HSUM.out]) (plc_one _) rfl rfl rfl rfl rfl rfl rfl rfl rfl ?_
  intro g12 w7 hg12 hb7 L7
  have HC7 := Lib.hid (Keeps.of_below hb7 _ _ HC6.out)
  have HO7 := Lib.hid (HO6.out.below hb7)
  have HL7 : Hid (g3 < w7.heap.size) := Nat.lt_of_lt_of_le HL6.out hb7.size
  have HB7 := Lib.hid (Z1 HB6.out hb7 HB6.out.size)
  have HPS7 := Lib.hid (HPS6.out.below hb7)
  have hN7 : Newer w7 g3 g12 (e, (s : Int)) := ⟨HC7.out, L7.at_ 0 rfl, HSUM.out⟩
  have L7 := Lib.hid L7
  clear HC6 HO6 HL6 HB6 HPS6 hb7 hg12 L6 LG
  obtain ⟨l, hl⟩ : ∃ l, addP (s : Int) (allK f s) (entsR (R.take k)) = l := ⟨_, rfl⟩
  have hll : l.length ≤ 128 := by
    rw [← hl, addP_len]
    have h1 := HAL.out
    have h2 := entsR_len (R.take k)
    rw [List.length_take] at h2
    omega
  rw [hl] at HO7
  have HNX : Hid (addP (s : Int) (allK f s) (entsR (R.take nk)) = insP (e, (s : Int)) l) := by
    show _ = _
    have h1 := HPK.out
    unfold pickE at h1
    rw [if_pos rfl] at h1
    rw [h1]
    simp only [Option.toList_some]
    rw [addP_snoc, hl]
  clear hl
  obtain ⟨A, c, rfl, hpl, hlc, hc9⟩ := HO7.out.pls
  obtain ⟨N, hN⟩ : ∃ N, l.length = N := ⟨_, rfl⟩
  rw [hN] at hpl hlc hll hne3 ⊢
  have HN := Lib.hid hN
  have HPL := Lib.hid hpl
  clear hpl
  repeat (first | refine Zv ?_ | refine Zc ?_ | refine Zq ?_ | refine Zm ?_ | (first | refine Zb rfl rfl (.inl rfl) rfl rfl ?_ | refine Zb rfl rfl (.inr rfl) rfl rfl ?_ | refine Za rfl rfl (.inl rfl) rfl ?_ | refine Za rfl rfl (.inr rfl) rfl ?_))
  ((first | refine Zn rfl rfl rfl fun K hK => ?_ | refine Zh rfl rfl rfl fun K hK => ?_); go_simp; (try go_bits); (first | refine hK _ _ ?_ | refine hK _ ?_); clear hK K)
  refine Z9 rfl rfl rfl Try.func54 rfl (by kernel_rfl) rfl ?_
  refine Calls.mono (indexP_any g3 g12 (e, (s : Int)) A N c l w7 hN7 HPL.out (by omega)) ?_
  rintro e w8 ⟨rfl, hb8⟩
  refine ⟨_, rfl, ?_⟩
  have HC8 := Lib.hid (Keeps.of_below hb8 _ _ HC7.out)
  have HO8 := Lib.hid (HO7.out.below hb8)
  have HL8 : Hid (g3 < w8.heap.size) := Nat.lt_of_lt_of_le HL7.out hb8.size
  have HB8 := Lib.hid (Z1 HB7.out hb8 HB7.out.size)
  have HPS8 := Lib.hid (HPS7.out.below hb8)
  have L8 := Lib.hid (L7.out.next hb8)
  clear HC7 HO7 HL7 HB7 HPS7 hb8 hN7 L7
  obtain ⟨q, hq, hins, hqq⟩ := insP_at (e, (s : Int)) l
  obtain ⟨z, hz⟩ : ∃ z, idxP (e, (s : Int)) l = z := ⟨_, rfl⟩
  rw [hz] at hqq ⊢
  have HINS := Lib.hid (And.intro hq hins)
  clear hz hq hins
  (first | refine Zb rfl rfl (.inl rfl) rfl rfl ?_ | refine Zb rfl rfl (.inr rfl) rfl rfl ?_ | refine Za rfl rfl (.inl rfl) rfl ?_ | refine Za rfl rfl (.inr rfl) rfl ?_)
  refine Zq ?_
  refine Zm ?_
  refine kw_cut (fun L W => W = w8 ∧ L = [(0, .pointer (some ⟨g, 0, none⟩)), (3, .pointer (some ⟨g3, 0, none⟩)), (4, .slice A N c), (14, .int .i64 (s : Int)), (5, .int .i64 (s : Int)), (12, .pointer (some ⟨g12, 0, none⟩)), (13, .int .i64 (q : Int)), (23, .slice (some ⟨bA, oA, none⟩) n2 c2), (24, .int .i64 (n2 : Int)), (25, .int .i64 (k : Int))]) ?_ ?_
  · rcases hqq with ⟨rfl, hqlt⟩ | ⟨rfl, hqe⟩
    · have t3 : decide ((q : Int) < 0) = false := by rw [decide_eq_false_iff_not]; omega
      clear hqlt
      repeat (first | refine Zv ?_ | refine Zc ?_ | refine Zq ?_ | refine Zm ?_ | refine Zx rfl ?_ | refine Zu ?_ | (first | refine Zb rfl rfl (.inl rfl) rfl rfl ?_ | refine Zb rfl rfl (.inr rfl) rfl rfl ?_ | refine Za rfl rfl (.inl rfl) rfl ?_ | refine Za rfl rfl (.inr rfl) rfl ?_) | ((first | refine Zn rfl rfl rfl fun K hK => ?_ | refine Zh rfl rfl rfl fun K hK => ?_); go_simp; (try go_bits); (first | refine hK _ _ ?_ | refine hK _ ?_); clear hK K))
      refine YU [0, 3, 4, 14, 5, 12, 13, 23, 24, 25] ?_
      exact ⟨rfl, rfl⟩
    · have hqN : q = N := by rw [hqe, HN.out]
      subst hqN
      clear hqe
      repeat (first | refine Zv ?_ | refine Zc ?_ | refine Zq ?_ | refine Zm ?_ | refine Zy rfl ?_ | refine Zu ?_ | (first | refine Zb rfl rfl (.inl rfl) rfl rfl ?_ | refine Zb rfl rfl (.inr rfl) rfl rfl ?_ | refine Za rfl rfl (.inl rfl) rfl ?_ | refine Za rfl rfl (.inr rfl) rfl ?_) | ((first | refine Zn rfl rfl rfl fun K hK => ?_ | refine Zh rfl rfl rfl fun K hK => ?_); go_simp; (try go_bits); (first | refine hK _ _ ?_ | refine hK _ ?_); clear hK K))
      refine YU [0, 3, 4, 14, 5, 12, 13, 23, 24, 25] ?_
      exact ⟨rfl, rfl⟩
  rintro L W4 ⟨rfl, rfl⟩
  have LG := L8.out
  repeat (first | refine Zv ?_ | refine Zc ?_ | (first | refine Zb rfl rfl (.inl rfl) rfl rfl ?_ | refine Zb rfl rfl (.inr rfl) rfl rfl ?_ | refine Za rfl rfl (.inl rfl) rfl ?_ | refine Za rfl rfl (.inr rfl) rfl ?_) | refine Wf LG 0 rfl Try.underlying72 rfl (plcInfo (e, (s : Int)) HSUM.out) rfl rfl rfl rfl rfl ?_)
  refine XO (z := plcC (entZ, 0)) (cs := plcC (e, (s : Int))) Try.underlying73 plcZero plcSize (Xi (e, (s : Int)) HSUM.out) (by omega) (by omega) rfl rfl rfl rfl rfl ?_
  obtain ⟨w9, hw9⟩ : ∃ w9, w9 = W4.alloc (.cells (plcC (e, (s : Int))).toArray 72) := ⟨_, rfl⟩
  have hb9 : Below W4.heap.size W4 w9 := by rw [hw9]; exact (Below.refl _ _).alloc (Nat.le_refl _) _
  have hvb : w9.heap[W4.heap.size]? = some (.cells (plcC (e, (s : Int))).toArray 72 (0, 0)) := by rw [hw9]; exact heap_alloc_new _ _
  rw [← hw9]
  have hown8 := HO8.out.own
  rw [HN.out] at hown8
  have hne9 : (Value.slice A N c).ownBlock ≠ some W4.heap.size := fun hh => by have := (hown8.lt _ hh).2; omega
  have hown9 := Yx hown8 hb9
  have HC9 := Lib.hid (Keeps.of_below hb9 _ _ HC8.out)
  have HL9 : Hid (g3 < w9.heap.size) := Nat.lt_of_lt_of_le HL8.out hb9.size
  have HB9 := Lib.hid (Z1 HB8.out hb9 HB8.out.size)
  have HPS9 := Lib.hid (HPS8.out.below hb9)
  have hl8 := HO8.out.sums
  clear HC8 HO8 HL8 HPS8 hb9 hw9 hown8 LG L8
  refine Z9 rfl rfl rfl Try.func56 rfl (by kernel_rfl) rfl ?_
  refine Calls.mono (insert_any w.heap.size (.slice A N c) N (flatP l) q (plcC (e, (s : Int))) W4.heap.size w9 hown9 (by rw [← HN.out]; exact HINS.out.1) (by omega) (Xi (e, (s : Int)) HSUM.out) (plc_one' _) (flatP_one l) hvb hne9 HB9.out.size) ?_
  rintro e w10 ⟨v10, rfl, ho10, hg10, hob⟩
  refine ⟨_, rfl, ?_⟩
  have HO10 : Hid (OwnPl w10 w.heap.size v10 (addP (s : Int) (allK f s) (entsR (R.take nk)))) := by
    show OwnPl _ _ _ _
    rw [HNX.out]
    exact OwnPl.ins hl8 HSUM.out HINS.out.1 HINS.out.2 (by rw [HN.out]; exact ho10)
  have HB10 := Lib.hid (Vi HB9.out hg10 hown9 HB9.out.size)
  have HC10 := Lib.hid (hg10.cell HC9.out (fun hh => hne3.out hh.symm))
  have HL10 : Hid (g3 < w10.heap.size) := Nat.lt_of_lt_of_le HL9.out hg10.size
  have HN10 : Hid (v10.ownBlock ≠ some g3) := by
    show _ ≠ _
    rcases hob with hob | hob
    · rw [hob]; exact hne3.out
    · rw [hob]; intro hh; injection hh with hh; have := HL9.out; omega
  have HPS10 := Lib.hid (HPS9.out.grown hown9 (by decide) (by decide) hg10)
  clear HC9 HL9 HB9 HPS9 hown9 ho10 hg10 hob hvb hne9 hne3
  repeat (first | refine Zv ?_ | refine Zc ?_ | refine Zq ?_ | refine Zm ?_ | refine Zp ?_ | (first | refine Zb rfl rfl (.inl rfl) rfl rfl ?_ | refine Zb rfl rfl (.inr rfl) rfl rfl ?_ | refine Za rfl rfl (.inl rfl) rfl ?_ | refine Za rfl rfl (.inr rfl) rfl ?_) | ((first | refine Zn rfl rfl rfl fun K hK => ?_ | refine Zh rfl rfl rfl fun K hK => ?_); go_simp; (try go_bits); (first | refine hK _ _ ?_ | refine hK _ ?_); clear hK K))
  refine Yk (n2 - nk) [0, 3, 4, 14, 5, 23, 24, 25] (by have := HNK.out; omega) ?_
  exact ⟨nk, v10, by have := HNK.out; omega, rfl, HB10, HC10, HO10, HL10, HN10, HPS10, rfl⟩
end Go.Proofs.Ytkncomkncfcecaa
