/- Rows of what is kept, in memory. Arguments '[]Kept' and '[][]Kept', opened. Rows of structs of k cells each, in memory. No program in sight. -/
import Derived.Test.YtcpifcdndhhmgaaRetP
import Derived.Test.YtcpifcdndhhmgaaKnV
import Derived.Test.YtcpifcdndhhmgaaLay
import Derived.Test.YtcpifcdndhhmgaaFlashPlain
import Derived.Deep.Slices
set_option linter.unusedVariables false
set_option linter.unusedSimpArgs false
namespace Go.Proofs.Ytcpifcdndhhmgaa
open Go.RowKit
def I64 (x : Int) : Prop := -9223372036854775808 ≤ x ∧ x ≤ 9223372036854775807
def kepC (k : KepS) : List Value := [.string ⟨k.path.toArray⟩, .int .i64 k.kind, .int .i64 k.value]
def kepZ : KepS := ⟨[], 0, 0⟩
theorem kepC_len (k : KepS) : (kepC k).length = 3 := rfl
theorem kepC_one' (k : KepS) : ∀ u ∈ kepC k, u.oneCell' = true := by
  intro u hu
  simp only [kepC, List.mem_cons, List.not_mem_nil, or_false] at hu
  rcases hu with rfl | rfl | rfl <;> rfl
theorem kepC_one (k : KepS) : (kepC k).toArray.all (·.oneCell') = true := by
  rw [List.all_toArray, List.all_eq_true]; exact kepC_one' k
def flatK (l : List KepS) : List Value := (l.map kepC).flatten
theorem flatK_cons (p : KepS) (l : List KepS) : flatK (p :: l) = kepC p ++ flatK l := rfl
theorem flatK_append (l m : List KepS) : flatK (l ++ m) = flatK l ++ flatK m := by simp [flatK]
theorem flatK_snoc (l : List KepS) (p : KepS) : flatK (l ++ [p]) = flatK l ++ kepC p := by simp [flatK]
theorem flatK_len : ∀ (l : List KepS), (flatK l).length = l.length * 3
  | [] => rfl
  | p :: l => by rw [flatK_cons, List.length_append, kepC_len, flatK_len l, List.length_cons]; omega
theorem flatK_drop (l : List KepS) (k : Nat) (hk : k ≤ l.length) : (flatK l).drop (k * 3) = flatK (l.drop k) := by
  have h1 : flatK l = flatK (l.take k) ++ flatK (l.drop k) := by rw [← flatK_append, List.take_append_drop]
  have h2 := flatK_len (l.take k)
  rw [List.length_take, Nat.min_eq_left hk] at h2
  rw [h1, List.drop_append_of_le_length (by omega), List.drop_of_length_le (by omega), List.nil_append]
theorem flatK_at (l : List KepS) (i : Nat) (p : KepS) (hi : l[i]? = some p) : ∀ j u, (kepC p)[j]? = some u → (flatK l)[i * 3 + j]? = some u := by
  intro j u hu
  have hil := (List.getElem?_eq_some_iff.1 hi).1
  have hj := (List.getElem?_eq_some_iff.1 hu).1
  have h1 := flatK_drop l i (by omega)
  have h2 : l.drop i = p :: l.drop (i + 1) := by rw [List.drop_eq_getElem_cons hil, (List.getElem?_eq_some_iff.1 hi).2]
  rw [h2, flatK_cons] at h1
  have h3 : ((flatK l).drop (i * 3))[j]? = some u := by rw [h1, List.getElem?_append_left hj]; exact hu
  rwa [List.getElem?_drop] at h3
theorem flatK_one (l : List KepS) : ∀ u ∈ flatK l, u.oneCell' = true := fun u hu => by
  unfold flatK at hu
  obtain ⟨cs, hcs, hu⟩ := List.mem_flatten.1 hu
  obtain ⟨p, _, rfl⟩ := List.mem_map.1 hcs
  exact kepC_one' p u hu
theorem kepZero : (Try.prog.info? 29).bind (·.zero) = some (.agg (kepC kepZ).toArray) := by kernel_rfl
theorem kepSize : (Try.prog.info? 29).map (·.size) = some 3 := by kernel_rfl
theorem kepInfo3 : (Try.prog.info? 29).map (fun i => (i.zero, i.size, i.bytes)) = some (some (.agg (kepC kepZ).toArray), 3, 32) := by kernel_rfl
theorem kepInfo (k : KepS) : (Try.prog.info? 29).map (·.size) = some (kepC k).toArray.size := by rw [kepSize]; rfl
theorem kepInfoL (k : KepS) : (Try.prog.info? 29).map (·.size) = some (kepC k).length := by rw [kepSize]; rfl
theorem kepUnder : ∃ fs, Try.prog.underlying 29 = some (.struct fs) ∧ fs.toList.mapM (fun f => (Try.prog.info? f.type).map fun i => (f.offset, i.size)) = some [(0, 1), (1, 1), (2, 1)] := ⟨_, Try.underlying29, by kernel_rfl⟩
theorem kepBuilt2 (s : List UInt8) (q : Int) : Try.prog.built 29 [(0, .string ⟨s.toArray⟩), (1, .int .i64 q)] = some (kepC ⟨s, q, 0⟩).toArray := by
  obtain ⟨fs, hu, hp⟩ := kepUnder
  rw [built_struct kepZero hu hp]
  refine (fill_step _ [] (kepC kepZ) 0 (.string ⟨s.toArray⟩) [.string ⟨s.toArray⟩] rfl rfl (by simp [kepC]) [(1, .int .i64 q)]).trans ?_
  refine (fill_step _ [.string ⟨s.toArray⟩] (((kepC kepZ)).drop 1) 1 (.int .i64 q) [.int .i64 q] rfl rfl (by simp [kepC]) []).trans ?_
  rw [fill_nil]; rfl
theorem kepBuilt3 (s : List UInt8) (q v : Int) : Try.prog.built 29 [(0, .string ⟨s.toArray⟩), (1, .int .i64 q), (2, .int .i64 v)] = some (kepC ⟨s, q, v⟩).toArray := by
  obtain ⟨fs, hu, hp⟩ := kepUnder
  rw [built_struct kepZero hu hp]
  refine (fill_step _ [] (kepC kepZ) 0 (.string ⟨s.toArray⟩) [.string ⟨s.toArray⟩] rfl rfl (by simp [kepC]) [(1, .int .i64 q), (2, .int .i64 v)]).trans ?_
  refine (fill_step _ [.string ⟨s.toArray⟩] (((kepC kepZ)).drop 1) 1 (.int .i64 q) [.int .i64 q] rfl rfl (by simp [kepC]) [(2, .int .i64 v)]).trans ?_
  refine (fill_step _ [.string ⟨s.toArray⟩, .int .i64 q] (((kepC kepZ)).drop 2) 2 (.int .i64 v) [.int .i64 v] rfl rfl (by simp [kepC]) []).trans ?_
  rw [fill_nil]; rfl

/-! ### rows -/
/-- a row of what is kept at A -/
structure KeS (w : World) (A : Option Addr) (n : Nat) (l : List KepS) : Prop where
  len : l.length = n
  at_ : 0 < n → ∃ g o, A = some ⟨g, o, none⟩ ∧ ∀ i p, l[i]? = some p → w.rangeAt g (o + i * 3) (kepC p)
/-- its block holds nothing else -/
def TyK (w : World) (A : Option Addr) : Prop := ∀ b o, A = some ⟨b, o, none⟩ → ∃ cs, w.heap[b]? = some (.cells cs 29 (0, 0))
theorem KeS.nil (w : World) (A : Option Addr) : KeS w A 0 [] := ⟨rfl, fun h => absurd h (by omega)⟩
theorem KeS.keep {w w' : World} {A : Option Addr} {n : Nat} {l : List KepS} (h : KeS w A n l) (hk : Keeps w w') : KeS w' A n l :=
  ⟨h.len, fun hn => by obtain ⟨g, o, e, hc⟩ := h.at_ hn; exact ⟨g, o, e, fun i p hp j u hu => hk _ _ (hc i p hp j u hu)⟩⟩
theorem KeS.below {w w' : World} {A : Option Addr} {n : Nat} {l : List KepS} (h : KeS w A n l) (hb : Below w.heap.size w w') : KeS w' A n l := h.keep (.of_below hb)
theorem KeS.grown {w w' : World} {A : Option Addr} {n g : Nat} {l : List KepS} (h : KeS w A n l) (hg : w.grownBy w' (some g)) (ha : 0 < n → Away g A) : KeS w' A n l :=
  ⟨h.len, fun hn => by
    obtain ⟨b, o, e, hc⟩ := h.at_ hn
    refine ⟨b, o, e, fun i p hp j u hu => ?_⟩
    have hne : b ≠ g := ha hn ⟨b, o, none⟩ e
    exact hg.cell (hc i p hp j u hu) (fun hh => hne (by injection hh))⟩
theorem KeS.next {w : World} {A : Option Addr} {n k : Nat} {l : List KepS} (h : KeS w A n l) (hk : k < n) :
    ∃ g o p, A = some ⟨g, o, none⟩ ∧ w.rangeAt g (o + k * 3) (kepC p) ∧ Hid (l.take (k + 1) = l.take k ++ [p]) ∧ Hid (l[k]? = some p) := by
  obtain ⟨g, o, e, hc⟩ := h.at_ (by omega)
  have hl : k < l.length := by rw [h.len]; exact hk
  exact ⟨g, o, l[k], e, hc k _ (List.getElem?_eq_getElem hl), take_next hl, List.getElem?_eq_getElem hl⟩
theorem KeS.inQ {w : World} {A : Option Addr} {n : Nat} {l : List KepS} (h : KeS w A n l) : 0 < n → InQ (fun b => b < w.heap.size) A := fun h0 a e => by
  obtain ⟨g, o, e', hc⟩ := h.at_ h0
  rw [e'] at e
  injection e with e
  subst e
  have hl : 0 < l.length := by rw [h.len]; exact h0
  have := hc 0 _ (List.getElem?_eq_getElem hl) 1 (.int .i64 (l[0]).kind) rfl
  exact World.block_lt_of_cell? w ⟨g, o + 0 * 3 + 1, none⟩ this
theorem TyK.nil (w : World) : TyK w none := fun b o e => by cases e
theorem TyK.below {w w' : World} {A : Option Addr} (h : TyK w A) (hb : Below w.heap.size w w') : TyK w' A := fun b o e => by
  obtain ⟨cs, hc⟩ := h b o e
  exact ⟨cs, by rw [hb.block b (Array.getElem?_eq_some_iff.1 hc).1]; exact hc⟩
theorem TyK.grown {w w' : World} {A : Option Addr} {g : Nat} {cs : Array Value} {t : TypeId} {fr : Nat × Nat} (h : TyK w A) (hg : w.grownBy w' (some g)) (hb : w.heap[g]? = some (.cells cs t fr)) (ht : t ≠ 29) : TyK w' A := fun b o e => by
  obtain ⟨cs', hc⟩ := h b o e
  have hne : b ≠ g := fun hh => by subst hh; rw [hc] at hb; injection hb with hb; injection hb with _ h2; exact ht h2.symm
  exact ⟨cs', by rw [hg.block b (Array.getElem?_eq_some_iff.1 hc).1 (fun hh => hne (by injection hh))]; exact hc⟩
theorem TyK.away {w : World} {A : Option Addr} {n g : Nat} {l : List KepS} {cs : Array Value} {t : TypeId} {fr : Nat × Nat} (h : TyK w A) (hA : KeS w A n l) (hb : w.heap[g]? = some (.cells cs t fr)) (ht : t ≠ 29) : 0 < n → Away g A := fun hn a e hg => by
  obtain ⟨b, o, e', _⟩ := hA.at_ hn
  obtain ⟨cs', hc⟩ := h b o e'
  rw [e'] at e
  injection e with e
  subst e
  subst hg
  rw [hc] at hb; injection hb with hb; injection hb with _ h2; exact ht h2.symm
theorem own_kes {w : World} {base : Nat} {v : Value} {n : Nat} {l : List KepS} (h : w.ownsRow base 29 3 v n (flatK l)) (hl : l.length = n) : ∃ A c, v = .slice A n c ∧ KeS w A n l ∧ TyK w A ∧ n ≤ c ∧ c ≤ 9223372036854775807 ∧ (A = none → n = 0 ∧ c = 0) := by
  have ho := h
  rcases h.2 with ⟨h1, h2⟩ | ⟨g, cap, cur, h1, _, h3, h4, h5, _⟩
  · subst h2
    exact ⟨none, 0, h1, ⟨hl, fun hn => absurd hn (by omega)⟩, TyK.nil _, by omega, by omega, fun _ => ⟨rfl, rfl⟩⟩
  · subst h1
    refine ⟨_, cap, rfl, ⟨hl, fun _ => ⟨g, 0, rfl, fun i p hp => ?_⟩⟩, fun b o e => ?_, h4, by simpa [maxLen] using h5, fun e => by cases e⟩
    · rw [Nat.zero_add]
      exact own_mid ho i _ (flatK_at l i p hp)
    · injection e with e
      injection e with e
      subst e
      exact ⟨_, h3⟩
/-- append of one -/
theorem kl_appK {Q : Exit → Act → World → Prop} {N : Nat} {L : Slots} {w : World} {ops : Array Oper} {rest : List Oper} {o : Oper} {d x y : Nat} (base : Nat) (v : Value) (n : Nat) (l : List KepS) (p : KepS) (hown : w.ownsRow base 29 3 v n (flatK l)) (g c : Nat)
    (hr : w.rangeAt g 0 (kepC p)) (hn : n ≤ 1099511627776) (hbase : base ≤ w.heap.size)
    (hd : o.dst = some d) (hg : o.guard = none) (ho : o.op = .call { callee := .builtin .append, args := #[.tmp x, .tmp y], argTypes := #[26, 26] })
    (hs : lk L x = some v) (hx : lk L y = some (.slice (some ⟨g, 0, none⟩) 1 c)) (hN : Nat.blt d N = true)
    (h : ∀ v' w', w'.ownsRow base 29 3 v' (n + 1) (flatK (l ++ [p])) → w.grownBy w' v.ownBlock → (v'.ownBlock = v.ownBlock ∨ v'.ownBlock = some w.heap.size) → KL Try.prog ops Q rest N ((d, v') :: L) w') : KL Try.prog ops Q (o :: rest) N L w :=
  kl_appendN 26 29 _ 3 32 Try.underlying26 kepInfo3 rfl (by omega) base v n (flatK l) hown g 0 1 c (kepC p) rfl hr (kepC_one' p) (by omega) (by omega) hbase hd hg ho hs hx hN
    fun v' w' h1 h2 h3 => h v' w' (by rw [flatK_snoc]; exact h1) h2 h3
set_option maxRecDepth 100000 in
theorem cloneK_any (A : Option Addr) (n c : Nat) (l : List KepS) (w : World) (hA : KeS w A n l) (hn : n ≤ 1099511627776) (h0 : A = none → n = 0 ∧ c = 0) :
    Calls Try.prog 53 #[.slice A n c] w fun e w' => ∃ v, e = .returned v ∧ w'.ownsRow w.heap.size 29 3 v n (flatK l) ∧ Below w.heap.size w w' := by
  obtain ⟨i0, hi0, hz0, hz1, hz2⟩ := info_parts kepInfo3
  have hnil := fun W => Lib.run_eql_slice_nil (P := Try.prog) W 26 29 A n c 0 0 Try.underlying26
  rcases A with _ | ad
  · obtain ⟨rfl, rfl⟩ := h0 rfl
    have hl : l = [] := List.eq_nil_of_length_eq_zero hA.len
    subst hl
    clear hA
    go_enter Try.func53, Try.ntmps53
    go_wp2
    go_ret
    exact ⟨_, rfl, World.ownsRow_nil _ _ _ _, Below.refl _ _⟩
  · have hsrc : ∀ j u, (flatK l)[j]? = some u → (w.alloc (.cells #[] 29)).cell? (ad.add j) = some u := by
      intro j u hu
      have hj := (List.getElem?_eq_some_iff.1 hu).1
      rw [flatK_len] at hj
      obtain ⟨g, o, e, hc⟩ := hA.at_ (by rw [← hA.len]; omega)
      injection e with e
      subst e
      have hil : j / 3 < l.length := by omega
      have hgi : l[j / 3]? = some l[j / 3] := List.getElem?_eq_getElem hil
      have h3 : j % 3 < (kepC l[j / 3]).length := by rw [kepC_len]; omega
      have h4 := flatK_at l _ _ hgi (j % 3) _ (List.getElem?_eq_getElem h3)
      rw [show j / 3 * 3 + j % 3 = j by omega] at h4
      have h5 := hc _ _ hgi (j % 3) _ (List.getElem?_eq_getElem h3)
      rw [h4] at hu
      injection hu with hu
      rw [hu, show o + j / 3 * 3 + j % 3 = o + j by omega] at h5
      rw [add_lit]
      exact Keeps.alloc w _ _ _ h5
    go_enter Try.func53, Try.ntmps53
    go_wp2_with (at_builtin; refine wpList_append_own_at _ rfl (.tmp 5) (.tmp 6) 26 rfl w.heap.size 29 i0 (.agg (kepC kepZ).toArray) 3 32 Try.underlying26 hi0 hz0 hz1 hz2 rfl (by omega) (.slice (some ⟨w.heap.size, 0, none⟩) 0 0) 0 [] rfl (World.ownsRow_made w #[] 0 (Nat.le_refl _) (by simp [maxLen]) rfl) ad n c (flatK l) rfl (by rw [flatK_len, hA.len]) hsrc (flatK_one l) (by simp only [maxLen]; omega) (by omega) (by simp) ?_; intro v1 w1 hown1 hg1 _ hat1)
    go_ret
    have hb := (Below.refl w.heap.size w).alloc (Nat.le_refl _) (.cells #[] 29)
    rw [Nat.zero_add, List.nil_append] at hown1
    exact ⟨_, rfl, hown1, hb.grown hg1 (by simp) (by simp [Value.ownBlock])⟩
end Go.Proofs.Ytcpifcdndhhmgaa
set_option linter.unusedVariables false
set_option linter.unusedSimpArgs false
namespace Go.Proofs.Ytcpifcdndhhmgaa
open Go.ChangeShapes Go.WideShapes Go.ChangeAt Go.RowKit Go.Deep
/-- a row of what is kept, each value of its own kind's size -/
structure KepW (W : World) (A : Option Addr) (n : Nat) (l : List KepS) : Prop where
  row : KeS W A n l
  kind : ∀ k ∈ l, I64 k.kind
  val : ∀ k ∈ l, I64 k.value
theorem KepW.keep {W W' : World} {A : Option Addr} {n : Nat} {l : List KepS} (h : KepW W A n l) (hk : Keeps W W') : KepW W' A n l := ⟨h.row.keep hk, h.kind, h.val⟩
/-- a row of such rows -/
structure KepWs (W : World) (A : Option Addr) (n : Nat) (ls : List (List KepS)) : Prop where
  len : ls.length = n
  at_ : 0 < n → ∃ g o, A = some ⟨g, o, none⟩ ∧ ∀ (i : Nat) (l : List KepS), ls[i]? = some l → ∃ B m c, W.cell? ⟨g, o + i, none⟩ = some (.slice B m c) ∧ KepW W B m l ∧ m ≤ c ∧ c ≤ 9223372036854775807
theorem KepWs.keep {W W' : World} {A : Option Addr} {n : Nat} {ls : List (List KepS)} (h : KepWs W A n ls) (hk : Keeps W W') : KepWs W' A n ls :=
  ⟨h.len, fun hn => by
    obtain ⟨g, o, e, hc⟩ := h.at_ hn
    refine ⟨g, o, e, fun i l hl => ?_⟩
    obtain ⟨B, m, c, h1, h2, h3⟩ := hc i l hl
    exact ⟨B, m, c, hk _ _ h1, h2.keep hk, h3⟩⟩
section
variable {H : Type} {enc : TypeId × Value → H} {P : Program} {W : World}
theorem kepts_of_trod {t e : TypeId} {f0 f1 f2 : Field} {v : Value} {y : DataW H × List MemPlace} {fuel : Nat} {h63 : Bool} (ht : P.underlying t = some (.slice e)) (he : P.underlying e = some (.struct #[f0, f1, f2])) (ce : P.cellsOf e = 3)
    (o0 : f0.offset = 0) (o1 : f1.offset = 1) (o2 : f2.offset = 2) (c0 : P.cellsOf f0.type = 1) (c1 : P.cellsOf f1.type = 1) (c2 : P.cellsOf f2.type = 1)
    (u0 : P.underlying f0.type = some .string) (u1 : P.underlying f1.type = some (.int .i64)) (u2 : P.underlying f2.type = some (.int .i64))
    (hf : DataW.trod enc P W 0 (fun _ => true) h63 fuel t [v] = some y) : ∃ A n c l, v = .slice A n c ∧ KepW W A n l ∧ n ≤ c ∧ c ≤ 9223372036854775807 := by
  rcases open_slice ht hf with ⟨hcs, _⟩ | ⟨a, n, c, m, k, D, Pl, hcs, _, hl, hm, hmm, _, hx⟩
  · simp at hcs
    exact ⟨none, 0, 0, [], hcs, ⟨KeS.nil _ _, by simp, by simp⟩, Nat.le_refl _, by omega⟩
  · simp at hcs
    simp only [if_true] at hmm
    have hrow0 : 0 < n → a.spot = none := by
      intro hi
      obtain ⟨cs', h1, h2⟩ := hx 0 (by omega)
      rw [ce] at h1
      obtain ⟨_, hlen, hcell⟩ := World.cells?_some h1
      have e0 := hcell 0 (by omega)
      have h0 : (a.add (0 * 3)).add 0 = a := by simp [Addr.add]
      rw [h0] at e0
      rw [List.getElem?_eq_getElem (by omega)] at e0
      exact World.cell?_spot e0
    have hrow : ∀ i, i < n → ∃ x : KepS, W.rangeAt a.block (a.off + i * 3) (kepC x) ∧ I64 x.kind ∧ I64 x.value := by
      intro i hi
      have hspot := hrow0 (by omega)
      obtain ⟨cs', h1, h2⟩ := hx i (by omega)
      rw [ce] at h1
      obtain ⟨_, hlen, hcell⟩ := World.cells?_some h1
      obtain ⟨xs, k2, hk2, hxy, _, hxl, hfs⟩ := DataW.trod_struct he h2
      match xs, hxl, cs', hlen with
      | [y0, y1, y2], _, [v0, v1, v2], _ =>
        have g0 := hfs 0 f0 rfl
        have g1 := hfs 1 f1 rfl
        have g2 := hfs 2 f2 rfl
        simp [o0, o1, o2, c0, c1, c2] at g0 g1 g2
        obtain ⟨s0, w0, _, q0⟩ := DataW.trod_string u0 g0
        obtain ⟨z1, w1, _, q1⟩ := DataW.trod_int u1 g1
        obtain ⟨z2, w2, _, q2⟩ := DataW.trod_int u2 g2
        simp at w0 w1 w2
        obtain ⟨l0, rfl⟩ := str_list s0
        subst w0; subst w1; subst w2
        refine ⟨⟨l0, z1, z2⟩, fun j u hu => ?_, i64_bounds q1, i64_bounds q2⟩
        obtain ⟨ab, ao, asp⟩ := a
        dsimp only at hspot
        subst hspot
        have hj : j < 3 := (List.getElem?_eq_some_iff.1 hu).1
        have e := hcell j (by omega)
        rw [Addr.add_lit, Addr.add_lit] at e
        rw [e]; exact hu
    haveI : Inhabited KepS := ⟨kepZ⟩
    obtain ⟨F, hF⟩ := choose_lt hrow
    refine ⟨some a, n, c, (List.range n).map F, hcs, ⟨⟨by simp, fun hn => ?_⟩, fun k hk => ?_, fun k hk => ?_⟩, hl, by simpa [maxLen] using hm⟩
    · have hs := hrow0 hn
      obtain ⟨ab, ao, asp⟩ := a
      dsimp only at hs
      subst hs
      refine ⟨ab, ao, rfl, fun i x hix => ?_⟩
      simp only [List.getElem?_map, Option.map_eq_some_iff] at hix
      obtain ⟨k3, hk3, rfl⟩ := hix
      obtain ⟨h1, h2⟩ := List.getElem?_eq_some_iff.1 hk3
      have hik : i < n := by simpa using h1
      have hki : i = k3 := by simpa using h2
      subst hki
      exact (hF i hik).1
    · obtain ⟨i, hi, rfl⟩ := List.mem_map.1 hk
      exact (hF i (List.mem_range.1 hi)).2.1
    · obtain ⟨i, hi, rfl⟩ := List.mem_map.1 hk
      exact (hF i (List.mem_range.1 hi)).2.2
theorem open_kepts {t e : TypeId} {f0 f1 f2 : Field} {v : Value} {d : DataW H} {p : List MemPlace} {b : Nat} {r : Reach} {h63 : Bool} (ht : P.underlying t = some (.slice e)) (he : P.underlying e = some (.struct #[f0, f1, f2])) (ce : P.cellsOf e = 3)
    (o0 : f0.offset = 0) (o1 : f1.offset = 1) (o2 : f2.offset = 2) (c0 : P.cellsOf f0.type = 1) (c1 : P.cellsOf f1.type = 1) (c2 : P.cellsOf f2.type = 1)
    (u0 : P.underlying f0.type = some .string) (u1 : P.underlying f1.type = some (.int .i64)) (u2 : P.underlying f2.type = some (.int .i64))
    (hval : Value.okWide P W r b t v) (h : DataW.Trod enc P W 0 (fun _ => true) h63 t v d p) : ∃ A n c l, v = .slice A n c ∧ KepW W A n l ∧ n ≤ c ∧ c ≤ 9223372036854775807 := by
  obtain ⟨A, n, c, rfl⟩ := okWide_slice ht hval
  obtain ⟨fuel, hf⟩ := h
  exact kepts_of_trod ht he ce o0 o1 o2 c0 c1 c2 u0 u1 u2 (by simpa [Value.cells] using hf)
end
end Go.Proofs.Ytcpifcdndhhmgaa
set_option linter.unusedVariables false
set_option linter.unusedSimpArgs false
namespace Go.Proofs.Ytcpifcdndhhmgaa
open Go.RowKit
section
variable {α : Type}
/-- what a struct has in memory -/
structure Enc (α : Type) where
  size : Nat
  cells : α → List Value
  len : ∀ a, (cells a).length = size
  pos : 0 < size
  one : ∀ a, ∀ u ∈ cells a, u.oneCell' = true
variable (E : Enc α)
def flatR (l : List α) : List Value := (l.map E.cells).flatten
theorem flatR_cons (p : α) (l : List α) : flatR E (p :: l) = E.cells p ++ flatR E l := rfl
theorem flatR_append (l m : List α) : flatR E (l ++ m) = flatR E l ++ flatR E m := by simp [flatR]
theorem flatR_snoc (l : List α) (p : α) : flatR E (l ++ [p]) = flatR E l ++ E.cells p := by simp [flatR]
theorem flatR_len : ∀ (l : List α), (flatR E l).length = l.length * E.size
  | [] => by simp [flatR]
  | p :: l => by rw [flatR_cons, List.length_append, E.len, flatR_len l, List.length_cons, Nat.add_mul, Nat.one_mul]; omega
theorem flatR_drop (l : List α) (k : Nat) (hk : k ≤ l.length) : (flatR E l).drop (k * E.size) = flatR E (l.drop k) := by
  have h1 : flatR E l = flatR E (l.take k) ++ flatR E (l.drop k) := by rw [← flatR_append, List.take_append_drop]
  have h2 := flatR_len E (l.take k)
  rw [List.length_take, Nat.min_eq_left hk] at h2
  rw [h1, List.drop_append_of_le_length (by omega), List.drop_of_length_le (by omega), List.nil_append]
theorem flatR_at (l : List α) (i : Nat) (p : α) (hi : l[i]? = some p) : ∀ j u, (E.cells p)[j]? = some u → (flatR E l)[i * E.size + j]? = some u := by
  intro j u hu
  have hil := (List.getElem?_eq_some_iff.1 hi).1
  have hj := (List.getElem?_eq_some_iff.1 hu).1
  have h1 := flatR_drop E l i (by omega)
  have h2 : l.drop i = p :: l.drop (i + 1) := by rw [List.drop_eq_getElem_cons hil, (List.getElem?_eq_some_iff.1 hi).2]
  rw [h2, flatR_cons] at h1
  have h3 : ((flatR E l).drop (i * E.size))[j]? = some u := by rw [h1, List.getElem?_append_left hj]; exact hu
  rwa [List.getElem?_drop] at h3
theorem flatR_one (l : List α) : ∀ u ∈ flatR E l, u.oneCell' = true := fun u hu => by
  unfold flatR at hu
  obtain ⟨cs, hcs, hu⟩ := List.mem_flatten.1 hu
  obtain ⟨p, _, rfl⟩ := List.mem_map.1 hcs
  exact E.one p u hu
/-- a row of them at A -/
structure Rw (w : World) (A : Option Addr) (n : Nat) (l : List α) : Prop where
  len : l.length = n
  at_ : 0 < n → ∃ g o, A = some ⟨g, o, none⟩ ∧ ∀ i p, l[i]? = some p → w.rangeAt g (o + i * E.size) (E.cells p)
variable {E} {w w' : World} {A : Option Addr} {n : Nat} {l : List α}
theorem Rw.nil (w : World) (A : Option Addr) : Rw E w A 0 [] := ⟨rfl, fun h => absurd h (by omega)⟩
theorem Rw.keep (h : Rw E w A n l) (hk : Keeps w w') : Rw E w' A n l :=
  ⟨h.len, fun hn => by obtain ⟨g, o, e, hc⟩ := h.at_ hn; exact ⟨g, o, e, fun i p hp j u hu => hk _ _ (hc i p hp j u hu)⟩⟩
theorem Rw.below (h : Rw E w A n l) (hb : Below w.heap.size w w') : Rw E w' A n l := h.keep (.of_below hb)
theorem Rw.grown {g : Nat} (h : Rw E w A n l) (hg : w.grownBy w' (some g)) (ha : 0 < n → Away g A) : Rw E w' A n l :=
  ⟨h.len, fun hn => by
    obtain ⟨b, o, e, hc⟩ := h.at_ hn
    refine ⟨b, o, e, fun i p hp j u hu => ?_⟩
    have hne : b ≠ g := ha hn ⟨b, o, none⟩ e
    exact hg.cell (hc i p hp j u hu) (fun hh => hne (by injection hh))⟩
theorem Rw.next {k : Nat} (h : Rw E w A n l) (hk : k < n) :
    ∃ g o p, A = some ⟨g, o, none⟩ ∧ w.rangeAt g (o + k * E.size) (E.cells p) ∧ Hid (l.take (k + 1) = l.take k ++ [p]) ∧ Hid (l[k]? = some p) := by
  obtain ⟨g, o, e, hc⟩ := h.at_ (by omega)
  have hl : k < l.length := by rw [h.len]; exact hk
  exact ⟨g, o, l[k], e, hc k _ (List.getElem?_eq_getElem hl), take_next hl, List.getElem?_eq_getElem hl⟩
theorem Rw.inQ (h : Rw E w A n l) : 0 < n → InQ (fun b => b < w.heap.size) A := fun h0 a e => by
  obtain ⟨g, o, e', hc⟩ := h.at_ h0
  rw [e'] at e
  injection e with e
  subst e
  have hl : 0 < l.length := by rw [h.len]; exact h0
  have hp : 0 < (E.cells l[0]).length := by rw [E.len]; exact E.pos
  have := World.block_lt_of_cell? w _ (hc 0 _ (List.getElem?_eq_getElem hl) 0 _ (List.getElem?_eq_getElem hp))
  exact this
/-- the flat row of its cells -/
theorem Rw.flat (h : Rw E w A n l) : Vs w A (n * E.size) (flatR E l) := by
  refine ⟨by rw [flatR_len, h.len], fun hn => ?_⟩
  have h0 : 0 < n := Nat.pos_of_ne_zero fun e => by rw [e] at hn; simp at hn
  obtain ⟨g, o, e, hc⟩ := h.at_ h0
  refine ⟨g, o, e, fun i v hv => ?_⟩
  have hi : i < n * E.size := by have := (List.getElem?_eq_some_iff.1 hv).1; rw [flatR_len, h.len] at this; exact this
  have hd : i / E.size < n := (Nat.div_lt_iff_lt_mul E.pos).2 hi
  have hm : i % E.size < E.size := Nat.mod_lt _ E.pos
  have hil : i / E.size < l.length := by rw [h.len]; exact hd
  have hj : i % E.size < (E.cells l[i / E.size]).length := by rw [E.len]; exact hm
  have e1 : i / E.size * E.size + i % E.size = i := by rw [Nat.mul_comm]; exact Nat.div_add_mod i E.size
  have h2 := flatR_at E l (i / E.size) _ (List.getElem?_eq_getElem hil) (i % E.size) _ (List.getElem?_eq_getElem hj)
  rw [e1, hv] at h2
  injection h2 with h2
  have h3 := hc (i / E.size) _ (List.getElem?_eq_getElem hil) (i % E.size) _ (List.getElem?_eq_getElem hj)
  rw [Nat.add_assoc, e1, ← h2] at h3
  exact h3
theorem own_rw {base : Nat} {e : TypeId} {v : Value} (h : w.ownsRow base e E.size v n (flatR E l)) (hl : l.length = n) : ∃ A c, v = .slice A n c ∧ Rw E w A n l ∧ n ≤ c ∧ c ≤ 9223372036854775807 ∧ (A = none → n = 0 ∧ c = 0) ∧ (∀ a, A = some a → base ≤ a.block) := by
  have ho := h
  rcases h.2 with ⟨h1, h2⟩ | ⟨g, cap, cur, h1, h6, h3, h4, h5, _⟩
  · subst h2
    exact ⟨none, 0, h1, ⟨hl, fun hn => absurd hn (by omega)⟩, by omega, by omega, fun _ => ⟨rfl, rfl⟩, fun a e => by cases e⟩
  · subst h1
    refine ⟨_, cap, rfl, ⟨hl, fun _ => ⟨g, 0, rfl, fun i p hp => ?_⟩⟩, h4, by simpa [maxLen] using h5, (fun e => by cases e), (fun a e => ?_)⟩
    · rw [Nat.zero_add]
      exact own_mid ho i _ (flatR_at E l i p hp)
    · injection e with e
      subst e
      exact h6
end
end Go.Proofs.Ytcpifcdndhhmgaa
