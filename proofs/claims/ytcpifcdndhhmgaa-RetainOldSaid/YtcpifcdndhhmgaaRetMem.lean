/- Rows of what is kept, in memory. -/
import Derived.Test.YtcpifcdndhhmgaaRetP
import Derived.Test.YtcpifcdndhhmgaaKnV
import Derived.Test.YtcpifcdndhhmgaaFill
set_option linter.unusedVariables false
set_option linter.unusedSimpArgs false
namespace Go.Proofs.Ytcpifcdndhhmgaa
open Go.RowKit
def I64 (x : Int) : Prop := -9223372036854775808 ≤ x ∧ x ≤ 9223372036854775807
def kepC (k : KepS) : List Value := [.string ⟨k.path.toArray⟩, .int .i64 k.kind, .int .i64 k.value]
def kepZ : KepS := ⟨[], 0, 0⟩
theorem kepC_len (k : KepS) : (kepC k).length = 3 := rfl
theorem kepC_one' (k : KepS) : ∀ u ∈ kepC k, u.oneCell' = true := by
  intro u hu
  simp only [kepC, List.mem_cons, List.not_mem_nil, or_false] at hu
  rcases hu with rfl | rfl | rfl <;> rfl
theorem kepC_one (k : KepS) : (kepC k).toArray.all (·.oneCell') = true := by
  rw [List.all_toArray, List.all_eq_true]; exact kepC_one' k
def flatK (l : List KepS) : List Value := (l.map kepC).flatten
theorem flatK_cons (p : KepS) (l : List KepS) : flatK (p :: l) = kepC p ++ flatK l := rfl
theorem flatK_append (l m : List KepS) : flatK (l ++ m) = flatK l ++ flatK m := by simp [flatK]
theorem flatK_snoc (l : List KepS) (p : KepS) : flatK (l ++ [p]) = flatK l ++ kepC p := by simp [flatK]
theorem flatK_len : ∀ (l : List KepS), (flatK l).length = l.length * 3
  | [] => rfl
  | p :: l => by rw [flatK_cons, List.length_append, kepC_len, flatK_len l, List.length_cons]; omega
theorem flatK_drop (l : List KepS) (k : Nat) (hk : k ≤ l.length) : (flatK l).drop (k * 3) = flatK (l.drop k) := by
  have h1 : flatK l = flatK (l.take k) ++ flatK (l.drop k) := by rw [← flatK_append, List.take_append_drop]
  have h2 := flatK_len (l.take k)
  rw [List.length_take, Nat.min_eq_left hk] at h2
  rw [h1, List.drop_append_of_le_length (by omega), List.drop_of_length_le (by omega), List.nil_append]
theorem flatK_at (l : List KepS) (i : Nat) (p : KepS) (hi : l[i]? = some p) : ∀ j u, (kepC p)[j]? = some u → (flatK l)[i * 3 + j]? = some u := by
  intro j u hu
  have hil := (List.getElem?_eq_some_iff.1 hi).1
  have hj := (List.getElem?_eq_some_iff.1 hu).1
  have h1 := flatK_drop l i (by omega)
  have h2 : l.drop i = p :: l.drop (i + 1) := by rw [List.drop_eq_getElem_cons hil, (List.getElem?_eq_some_iff.1 hi).2]
  rw [h2, flatK_cons] at h1
  have h3 : ((flatK l).drop (i * 3))[j]? = some u := by rw [h1, List.getElem?_append_left hj]; exact hu
  rwa [List.getElem?_drop] at h3
theorem flatK_one (l : List KepS) : ∀ u ∈ flatK l, u.oneCell' = true := fun u hu => by
  unfold flatK at hu
  obtain ⟨cs, hcs, hu⟩ := List.mem_flatten.1 hu
  obtain ⟨p, _, rfl⟩ := List.mem_map.1 hcs
  exact kepC_one' p u hu
theorem kepZero : (Try.prog.info? 29).bind (·.zero) = some (.agg (kepC kepZ).toArray) := by kernel_rfl
theorem kepSize : (Try.prog.info? 29).map (·.size) = some 3 := by kernel_rfl
theorem kepInfo3 : (Try.prog.info? 29).map (fun i => (i.zero, i.size, i.bytes)) = some (some (.agg (kepC kepZ).toArray), 3, 32) := by kernel_rfl
theorem kepInfo (k : KepS) : (Try.prog.info? 29).map (·.size) = some (kepC k).toArray.size := by rw [kepSize]; rfl
theorem kepInfoL (k : KepS) : (Try.prog.info? 29).map (·.size) = some (kepC k).length := by rw [kepSize]; rfl
theorem kepUnder : ∃ fs, Try.prog.underlying 29 = some (.struct fs) ∧ fs.toList.mapM (fun f => (Try.prog.info? f.type).map fun i => (f.offset, i.size)) = some [(0, 1), (1, 1), (2, 1)] := ⟨_, Try.underlying29, by kernel_rfl⟩
theorem kepBuilt2 (s : List UInt8) (q : Int) : Try.prog.built 29 [(0, .string ⟨s.toArray⟩), (1, .int .i64 q)] = some (kepC ⟨s, q, 0⟩).toArray := by
  obtain ⟨fs, hu, hp⟩ := kepUnder
  rw [built_struct kepZero hu hp]
  refine (fill_step _ [] (kepC kepZ) 0 (.string ⟨s.toArray⟩) [.string ⟨s.toArray⟩] rfl rfl (by simp [kepC]) [(1, .int .i64 q)]).trans ?_
  refine (fill_step _ [.string ⟨s.toArray⟩] (((kepC kepZ)).drop 1) 1 (.int .i64 q) [.int .i64 q] rfl rfl (by simp [kepC]) []).trans ?_
  rw [fill_nil]; rfl
theorem kepBuilt3 (s : List UInt8) (q v : Int) : Try.prog.built 29 [(0, .string ⟨s.toArray⟩), (1, .int .i64 q), (2, .int .i64 v)] = some (kepC ⟨s, q, v⟩).toArray := by
  obtain ⟨fs, hu, hp⟩ := kepUnder
  rw [built_struct kepZero hu hp]
  refine (fill_step _ [] (kepC kepZ) 0 (.string ⟨s.toArray⟩) [.string ⟨s.toArray⟩] rfl rfl (by simp [kepC]) [(1, .int .i64 q), (2, .int .i64 v)]).trans ?_
  refine (fill_step _ [.string ⟨s.toArray⟩] (((kepC kepZ)).drop 1) 1 (.int .i64 q) [.int .i64 q] rfl rfl (by simp [kepC]) [(2, .int .i64 v)]).trans ?_
  refine (fill_step _ [.string ⟨s.toArray⟩, .int .i64 q] (((kepC kepZ)).drop 2) 2 (.int .i64 v) [.int .i64 v] rfl rfl (by simp [kepC]) []).trans ?_
  rw [fill_nil]; rfl

/-! ### rows -/
/-- a row of what is kept at A -/
structure KeS (w : World) (A : Option Addr) (n : Nat) (l : List KepS) : Prop where
  len : l.length = n
  at_ : 0 < n → ∃ g o, A = some ⟨g, o, none⟩ ∧ ∀ i p, l[i]? = some p → w.rangeAt g (o + i * 3) (kepC p)
/-- its block holds nothing else -/
def TyK (w : World) (A : Option Addr) : Prop := ∀ b o, A = some ⟨b, o, none⟩ → ∃ cs, w.heap[b]? = some (.cells cs 29 (0, 0))
theorem KeS.nil (w : World) (A : Option Addr) : KeS w A 0 [] := ⟨rfl, fun h => absurd h (by omega)⟩
theorem KeS.keep {w w' : World} {A : Option Addr} {n : Nat} {l : List KepS} (h : KeS w A n l) (hk : Keeps w w') : KeS w' A n l :=
  ⟨h.len, fun hn => by obtain ⟨g, o, e, hc⟩ := h.at_ hn; exact ⟨g, o, e, fun i p hp j u hu => hk _ _ (hc i p hp j u hu)⟩⟩
theorem KeS.below {w w' : World} {A : Option Addr} {n : Nat} {l : List KepS} (h : KeS w A n l) (hb : Below w.heap.size w w') : KeS w' A n l := h.keep (.of_below hb)
theorem KeS.grown {w w' : World} {A : Option Addr} {n g : Nat} {l : List KepS} (h : KeS w A n l) (hg : w.grownBy w' (some g)) (ha : 0 < n → Away g A) : KeS w' A n l :=
  ⟨h.len, fun hn => by
    obtain ⟨b, o, e, hc⟩ := h.at_ hn
    refine ⟨b, o, e, fun i p hp j u hu => ?_⟩
    have hne : b ≠ g := ha hn ⟨b, o, none⟩ e
    exact hg.cell (hc i p hp j u hu) (fun hh => hne (by injection hh))⟩
theorem KeS.next {w : World} {A : Option Addr} {n k : Nat} {l : List KepS} (h : KeS w A n l) (hk : k < n) :
    ∃ g o p, A = some ⟨g, o, none⟩ ∧ w.rangeAt g (o + k * 3) (kepC p) ∧ Hid (l.take (k + 1) = l.take k ++ [p]) ∧ Hid (l[k]? = some p) := by
  obtain ⟨g, o, e, hc⟩ := h.at_ (by omega)
  have hl : k < l.length := by rw [h.len]; exact hk
  exact ⟨g, o, l[k], e, hc k _ (List.getElem?_eq_getElem hl), take_next hl, List.getElem?_eq_getElem hl⟩
theorem KeS.inQ {w : World} {A : Option Addr} {n : Nat} {l : List KepS} (h : KeS w A n l) : 0 < n → InQ (fun b => b < w.heap.size) A := fun h0 a e => by
  obtain ⟨g, o, e', hc⟩ := h.at_ h0
  rw [e'] at e
  injection e with e
  subst e
  have hl : 0 < l.length := by rw [h.len]; exact h0
  have := hc 0 _ (List.getElem?_eq_getElem hl) 1 (.int .i64 (l[0]).kind) rfl
  exact World.block_lt_of_cell? w ⟨g, o + 0 * 3 + 1, none⟩ this
theorem TyK.nil (w : World) : TyK w none := fun b o e => by cases e
theorem TyK.below {w w' : World} {A : Option Addr} (h : TyK w A) (hb : Below w.heap.size w w') : TyK w' A := fun b o e => by
  obtain ⟨cs, hc⟩ := h b o e
  exact ⟨cs, by rw [hb.block b (Array.getElem?_eq_some_iff.1 hc).1]; exact hc⟩
theorem TyK.grown {w w' : World} {A : Option Addr} {g : Nat} {cs : Array Value} {t : TypeId} {fr : Nat × Nat} (h : TyK w A) (hg : w.grownBy w' (some g)) (hb : w.heap[g]? = some (.cells cs t fr)) (ht : t ≠ 29) : TyK w' A := fun b o e => by
  obtain ⟨cs', hc⟩ := h b o e
  have hne : b ≠ g := fun hh => by subst hh; rw [hc] at hb; injection hb with hb; injection hb with _ h2; exact ht h2.symm
  exact ⟨cs', by rw [hg.block b (Array.getElem?_eq_some_iff.1 hc).1 (fun hh => hne (by injection hh))]; exact hc⟩
theorem TyK.away {w : World} {A : Option Addr} {n g : Nat} {l : List KepS} {cs : Array Value} {t : TypeId} {fr : Nat × Nat} (h : TyK w A) (hA : KeS w A n l) (hb : w.heap[g]? = some (.cells cs t fr)) (ht : t ≠ 29) : 0 < n → Away g A := fun hn a e hg => by
  obtain ⟨b, o, e', _⟩ := hA.at_ hn
  obtain ⟨cs', hc⟩ := h b o e'
  rw [e'] at e
  injection e with e
  subst e
  subst hg
  rw [hc] at hb; injection hb with hb; injection hb with _ h2; exact ht h2.symm
theorem own_kes {w : World} {base : Nat} {v : Value} {n : Nat} {l : List KepS} (h : w.ownsRow base 29 3 v n (flatK l)) (hl : l.length = n) : ∃ A c, v = .slice A n c ∧ KeS w A n l ∧ TyK w A ∧ n ≤ c ∧ c ≤ 9223372036854775807 ∧ (A = none → n = 0 ∧ c = 0) := by
  have ho := h
  rcases h.2 with ⟨h1, h2⟩ | ⟨g, cap, cur, h1, _, h3, h4, h5, _⟩
  · subst h2
    exact ⟨none, 0, h1, ⟨hl, fun hn => absurd hn (by omega)⟩, TyK.nil _, by omega, by omega, fun _ => ⟨rfl, rfl⟩⟩
  · subst h1
    refine ⟨_, cap, rfl, ⟨hl, fun _ => ⟨g, 0, rfl, fun i p hp => ?_⟩⟩, fun b o e => ?_, h4, by simpa [maxLen] using h5, fun e => by cases e⟩
    · rw [Nat.zero_add]
      exact own_mid ho i _ (flatK_at l i p hp)
    · injection e with e
      injection e with e
      subst e
      exact ⟨_, h3⟩
/-- append of one -/
theorem kl_appK {Q : Exit → Act → World → Prop} {N : Nat} {L : Slots} {w : World} {ops : Array Oper} {rest : List Oper} {o : Oper} {d x y : Nat} (base : Nat) (v : Value) (n : Nat) (l : List KepS) (p : KepS) (hown : w.ownsRow base 29 3 v n (flatK l)) (g c : Nat)
    (hr : w.rangeAt g 0 (kepC p)) (hn : n ≤ 1099511627776) (hbase : base ≤ w.heap.size)
    (hd : o.dst = some d) (hg : o.guard = none) (ho : o.op = .call { callee := .builtin .append, args := #[.tmp x, .tmp y], argTypes := #[26, 26] })
    (hs : lk L x = some v) (hx : lk L y = some (.slice (some ⟨g, 0, none⟩) 1 c)) (hN : Nat.blt d N = true)
    (h : ∀ v' w', w'.ownsRow base 29 3 v' (n + 1) (flatK (l ++ [p])) → w.grownBy w' v.ownBlock → (v'.ownBlock = v.ownBlock ∨ v'.ownBlock = some w.heap.size) → KL Try.prog ops Q rest N ((d, v') :: L) w') : KL Try.prog ops Q (o :: rest) N L w :=
  kl_appendN 26 29 _ 3 32 Try.underlying26 kepInfo3 rfl (by omega) base v n (flatK l) hown g 0 1 c (kepC p) rfl hr (kepC_one' p) (by omega) (by omega) hbase hd hg ho hs hx hN
    fun v' w' h1 h2 h3 => h v' w' (by rw [flatK_snoc]; exact h1) h2 h3
set_option maxRecDepth 100000 in
theorem cloneK_any (A : Option Addr) (n c : Nat) (l : List KepS) (w : World) (hA : KeS w A n l) (hn : n ≤ 1099511627776) (h0 : A = none → n = 0 ∧ c = 0) :
    Calls Try.prog 53 #[.slice A n c] w fun e w' => ∃ v, e = .returned v ∧ w'.ownsRow w.heap.size 29 3 v n (flatK l) ∧ Below w.heap.size w w' := by
  obtain ⟨i0, hi0, hz0, hz1, hz2⟩ := info_parts kepInfo3
  have hnil := fun W => Lib.run_eql_slice_nil (P := Try.prog) W 26 29 A n c 0 0 Try.underlying26
  rcases A with _ | ad
  · obtain ⟨rfl, rfl⟩ := h0 rfl
    have hl : l = [] := List.eq_nil_of_length_eq_zero hA.len
    subst hl
    clear hA
    go_enter Try.func53, Try.ntmps53
    go_wp2
    go_ret
    exact ⟨_, rfl, World.ownsRow_nil _ _ _ _, Below.refl _ _⟩
  · have hsrc : ∀ j u, (flatK l)[j]? = some u → (w.alloc (.cells #[] 29)).cell? (ad.add j) = some u := by
      intro j u hu
      have hj := (List.getElem?_eq_some_iff.1 hu).1
      rw [flatK_len] at hj
      obtain ⟨g, o, e, hc⟩ := hA.at_ (by rw [← hA.len]; omega)
      injection e with e
      subst e
      have hil : j / 3 < l.length := by omega
      have hgi : l[j / 3]? = some l[j / 3] := List.getElem?_eq_getElem hil
      have h3 : j % 3 < (kepC l[j / 3]).length := by rw [kepC_len]; omega
      have h4 := flatK_at l _ _ hgi (j % 3) _ (List.getElem?_eq_getElem h3)
      rw [show j / 3 * 3 + j % 3 = j by omega] at h4
      have h5 := hc _ _ hgi (j % 3) _ (List.getElem?_eq_getElem h3)
      rw [h4] at hu
      injection hu with hu
      rw [hu, show o + j / 3 * 3 + j % 3 = o + j by omega] at h5
      rw [add_lit]
      exact Keeps.alloc w _ _ _ h5
    go_enter Try.func53, Try.ntmps53
    go_wp2_with (at_builtin; refine wpList_append_own_at _ rfl (.tmp 5) (.tmp 6) 26 rfl w.heap.size 29 i0 (.agg (kepC kepZ).toArray) 3 32 Try.underlying26 hi0 hz0 hz1 hz2 rfl (by omega) (.slice (some ⟨w.heap.size, 0, none⟩) 0 0) 0 [] rfl (World.ownsRow_made w #[] 0 (Nat.le_refl _) (by simp [maxLen]) rfl) ad n c (flatK l) rfl (by rw [flatK_len, hA.len]) hsrc (flatK_one l) (by simp only [maxLen]; omega) (by omega) (by simp) ?_; intro v1 w1 hown1 hg1 _ hat1)
    go_ret
    have hb := (Below.refl w.heap.size w).alloc (Nat.le_refl _) (.cells #[] 29)
    rw [Nat.zero_add, List.nil_append] at hown1
    exact ⟨_, rfl, hown1, hb.grown hg1 (by simp) (by simp [Value.ownBlock])⟩
end Go.Proofs.Ytcpifcdndhhmgaa
