/- Checkpoints, plain: saves while the power is on, and while it goes. No program in sight. -/
import Derived.Test.YtcpifcdndhhmgaaRetP
import Derived.Test.YtcpifcdndhhmgaaRecTornP
set_option linter.unusedVariables false
set_option linter.unusedSimpArgs false
namespace Go.Proofs.Ytcpifcdndhhmgaa
open Go.RowKit

/-! ### erasures -/
theorem read_erased (f : FlashSt) (k : Nat) (hS : f.S.length = 6144) (hk : k < 6) (f' : FlashSt) (hf : f'.S.length = 6144) (hat : ∀ i, i < 6144 → f'.S.getD i 0 = if k * 1024 ≤ i ∧ i < k * 1024 + 1024 then 255 else f.S.getD i 0) :
    Packed (readF f' k) [] ∧ ∀ j : Nat, j < 6 → j ≠ k → readF f' j = readF f j := by
  refine ⟨Packed.nil ?_, fun j hj hne => ?_⟩
  · apply List.ext_getElem?
    intro m
    rw [List.getElem?_replicate]
    by_cases hm : m < 1024
    · rw [read_at f' k hk hf m hm, hat _ (by omega), if_pos (by omega), if_pos hm]
    · rw [List.getElem?_eq_none (by rw [read_len f' k hk hf]; omega), if_neg hm]
  · apply List.ext_getElem?
    intro m
    by_cases hm : m < 1024
    · rw [read_at f' j hj hf m hm, read_at f j hj hS m hm, hat _ (by omega), if_neg (by omega)]
    · rw [List.getElem?_eq_none (by rw [read_len f' j hj hf]; omega), List.getElem?_eq_none (by rw [read_len f j hj hS]; omega)]
theorem erase_live (f : FlashSt) (hL : Live f) (k : Nat) (hk : k < 6) : ∃ f', eraseF f k = (0, f') ∧ Live f' ∧ f'.done = wrap64 (f.done + 1) ∧ Packed (readF f' k) [] ∧ ∀ j : Nat, j < 6 → j ≠ k → readF f' j = readF f j := by
  have hl : (doneE f k).S.length = 6144 := by rw [doneE_len]; exact hL.len
  have h := read_erased f k hL.len hk (doneE f k) hl (fun i hi => doneE_at f k i (by rw [hL.len]; exact hi))
  exact ⟨_, erase_ok f k hL.dead hL.left hk, ⟨rfl, rfl, hl⟩, rfl, h⟩
theorem eraseF_form (f : FlashSt) (k : Nat) : ((f.dead = true ∨ 6 ≤ k) ∧ ∃ e, eraseF f k = (e, f)) ∨ ∃ f', eraseF f k = (if (spendF f).dead = true then 14 else 0, f') ∧ f'.dead = (spendF f).dead ∧ f'.left = (spendF f).left ∧ f'.S = layS (!(spendF f).dead) f.mask (List.replicate 1024 255) (k * 1024) 1024 f.S := by
  unfold eraseF
  generalize List.replicate 1024 (255 : UInt8) = R
  by_cases h1 : f.dead = true
  · rw [if_pos h1]; exact .inl ⟨.inl h1, _, rfl⟩
  · rw [if_neg h1]
    by_cases h2 : (k : Int) < 0 ∨ 6 ≤ (k : Int)
    · rw [if_pos h2]; exact .inl ⟨.inr (by omega), _, rfl⟩
    · rw [if_neg h2, Int.toNat_natCast]
      exact .inr ⟨{ spendF f with S := layS (!(spendF f).dead) f.mask R (k * 1024) 1024 f.S }, rfl, by dsimp only, by dsimp only, by dsimp only⟩
theorem more_erase (f : FlashSt) (k m : Nat) (h : Armed f (m + 2)) (hk : k < 6) : ∃ f', eraseF f k = (0, f') ∧ Armed f' (m + 1) ∧ Packed (readF f' k) [] ∧ ∀ j : Nat, j < 6 → j ≠ k → readF f' j = readF f j := by
  have hs := spend_more f m h.left
  obtain ⟨f', e1, e2, e3, e4⟩ : ∃ f', eraseF f k = (0, f') ∧ f'.dead = false ∧ f'.left = ((m + 1 : Nat) : Int) ∧ f'.S = layS true f.mask (List.replicate 1024 255) (k * 1024) 1024 f.S := by
    rcases eraseF_form f k with ⟨h1 | h1, _⟩ | ⟨f', h1, h2, h3, h4⟩
    · rw [h.dead] at h1; cases h1
    · omega
    · rw [hs] at h1 h2 h3 h4
      exact ⟨f', h1, h2, h3, h4⟩
  have hl : f'.S.length = 6144 := by rw [e4, length_layS, h.len]
  have hr := read_erased f k h.len hk f' hl (fun i hi => by
    rw [e4, lay_whole _ _ _ _ _ _ (by rw [h.len]; exact hi)]
    split
    · rw [List.getD_eq_getElem?_getD, List.getElem?_replicate, if_pos (by omega)]; rfl
    · rfl)
  exact ⟨f', e1, ⟨e2, e3, hl⟩, hr⟩

/-! ### how many operations -/
theorem prog_zero {f f1 : FlashSt} {s p : Int} {b : List UInt8} (h : progF f s p b = (0, f1)) (hL : f.left = 0) : f1.done = wrap64 (f.done + 1) ∧ f1.left = 0 := by
  unfold progF at h
  split at h
  · cases h
  · split at h
    · cases h
    · split at h
      · cases h
      · split at h
        · cases h
        · rw [spend_live f hL] at h
          injection h with h1 h2
          subst h2
          exact ⟨rfl, hL⟩
theorem progs_done (s : Int) (p : Nat) (x : List UInt8) : ∀ (n i : Nat) (f f' : FlashSt) (D : Nat), progs s p x n i f = (0, f') → f.left = 0 → f.done = (D : Int) → D + n ≤ 1099511627776 → f'.done = ((D + n : Nat) : Int)
  | 0, i, f, f', D, h, _, hd, _ => by
    simp only [progs] at h
    injection h with _ h
    subst h
    exact hd
  | n + 1, i, f, f', D, h, hL, hd, hD => by
    simp only [progs] at h
    split at h
    · rename_i h0
      obtain ⟨f1, hf1⟩ : ∃ f1, progF f s ((p + i : Nat) : Int) ((x.drop (16 * i)).take 16) = (0, f1) := ⟨_, Prod.ext h0 rfl⟩
      rw [hf1] at h
      obtain ⟨h1, h2⟩ := prog_zero hf1 hL
      have h3 : f1.done = ((D + 1 : Nat) : Int) := by rw [h1, hd]; unfold wrap64; omega
      have := progs_done s p x n (i + 1) f1 f' (D + 1) h h2 h3 (by omega)
      rw [this]
      congr 1
      omega
    · rename_i h0
      exact absurd (by rw [h]) h0
theorem append_done {f f' : FlashSt} {s : Int} {b : List UInt8} {D : Nat} (h : appendP f s b = (0, f')) (hL : f.left = 0) (hd : f.done = (D : Int)) (hD : D ≤ 1000000) (hb : b.length ≤ 1018) : f'.done = ((D + pagesN b.length : Nat) : Int) := by
  have hp := pagesN_lt b.length
  unfold appendP at h
  split at h
  · cases h
  · split at h
    · cases h
    · split at h
      · cases h
      · exact progs_done _ _ _ _ _ _ _ D h hL hd (by omega)

/-! ### the two sectors -/
abbrev Row := Int × List KepS
def bytesR (r : Row) : List UInt8 := bytesK r.1 r.2
structure SecK (f : FlashSt) (n s : Nat) (old cur : List Row) : Prop where
  sec : s = 4 ∨ s = 5
  pcur : Packed (readF f (s : Int)) (cur.map bytesR)
  pold : Packed (readF f ((9 - s : Nat) : Int)) (old.map bytesR)
  ok : ∀ r ∈ old ++ cur, CkOk r.1 r.2
  rise : (old ++ cur).Pairwise fun a b => a.1 < b.1
  top : ∀ r ∈ old ++ cur, r.1 ≤ (n : Int)
  last : (n = 0 ∧ s = 4 ∧ old = [] ∧ cur = []) ∨ (0 < n ∧ ∃ c l, cur = c ++ [((n : Int), l)])
theorem step_new {s : Int} {st : NSt} {r : Row} (h : CkOk r.1 r.2) (hlt : st.1 < r.1) : stepN s st (bytesR r) = (r.1, r.2, s) := by
  have hp := parseK_back r.1 r.2 h
  have ht : takesN s st (parseK (bytesR r)) := by
    show takesN s st (parseK (bytesK r.1 r.2))
    rw [hp]; exact ⟨rfl, .inl hlt⟩
  unfold stepN
  rw [if_pos ht]
  show ((parseK (bytesK r.1 r.2)).1, (parseK (bytesK r.1 r.2)).2.1, s) = _
  rw [hp]
theorem step_old {s : Int} {st : NSt} {r : Row} (h : CkOk r.1 r.2) (hlt : r.1 < st.1) : stepN s st (bytesR r) = st := by
  have hp := parseK_back r.1 r.2 h
  have ht : ¬ takesN s st (parseK (bytesR r)) := by
    show ¬ takesN s st (parseK (bytesK r.1 r.2))
    rw [hp]
    rintro ⟨_, h | h⟩
    · dsimp only at h; omega
    · dsimp only at h; omega
  unfold stepN
  rw [if_neg ht]
theorem fold_old (s : Int) : ∀ (rs : List Row) (st : NSt), (∀ r ∈ rs, CkOk r.1 r.2) → (∀ r ∈ rs, r.1 < st.1) → (rs.map bytesR).foldl (stepN s) st = st
  | [], _, _, _ => rfl
  | r :: rs, st, h1, h2 => by
    show (rs.map bytesR).foldl (stepN s) (stepN s st (bytesR r)) = st
    rw [step_old (h1 r (by simp)) (h2 r (by simp))]
    exact fold_old s rs st (fun x hx => h1 x (by simp [hx])) fun x hx => h2 x (by simp [hx])
theorem fold_new (s : Int) : ∀ (rs : List Row) (st : NSt), (∀ r ∈ rs, CkOk r.1 r.2) → rs.Pairwise (fun a b => a.1 < b.1) → (∀ r ∈ rs, st.1 < r.1) →
    (rs.map bytesR).foldl (stepN s) st = match rs.getLast? with | some r => (r.1, r.2, s) | none => st
  | [], _, _, _, _ => rfl
  | r :: rs, st, h1, h2, h3 => by
    obtain ⟨h4, h5⟩ := List.pairwise_cons.1 h2
    show (rs.map bytesR).foldl (stepN s) (stepN s st (bytesR r)) = _
    rw [step_new (h1 r (by simp)) (h3 r (by simp)), fold_new s rs _ (fun x hx => h1 x (by simp [hx])) h5 (fun x hx => h4 x hx), List.getLast?_cons]
    cases rs.getLast? <;> rfl
theorem secN_packed {f : FlashSt} {s : Int} {rs : List Row} (hP : Packed (readF f s) (rs.map bytesR)) (st : NSt) : secN f s st = (rs.map bytesR).foldl (stepN s) st := by
  unfold secN; rw [hP.load]
theorem SecK.new0 {f : FlashSt} {s : Nat} {old cur : List Row} (h : SecK f 0 s old cur) : newK f = (0, [], 4) := by
  rcases h.last with ⟨_, rfl, rfl, rfl⟩ | ⟨h0, _⟩
  · have h4 : Packed (readF f 4) (([] : List Row).map bytesR) := h.pcur
    have h5 : Packed (readF f 5) (([] : List Row).map bytesR) := h.pold
    unfold newK
    rw [secN_packed h4, secN_packed h5]
    rfl
  · omega
theorem SecK.new1 {f : FlashSt} {n s : Nat} {old c : List Row} {l : List KepS} (h : SecK f n s old (c ++ [((n : Int), l)])) : newK f = ((n : Int), l, (s : Int)) := by
  obtain ⟨r1, r2, r3⟩ := List.pairwise_append.1 h.rise
  have hoc : ∀ r ∈ old, CkOk r.1 r.2 := fun r hr => h.ok r (by simp [hr])
  have hcc : ∀ r ∈ c ++ [((n : Int), l)], CkOk r.1 r.2 := fun r hr => h.ok r (List.mem_append_right _ hr)
  have hpos : ∀ r ∈ old ++ (c ++ [((n : Int), l)]), (0 : Int) < r.1 := fun r hr => by have := (h.ok r hr).seq; omega
  have hcur : ∀ (t : Int) (st : NSt), (∀ r ∈ c ++ [((n : Int), l)], st.1 < r.1) → ((c ++ [((n : Int), l)]).map bytesR).foldl (stepN t) st = ((n : Int), l, t) := fun t st hst => by
    rw [fold_new t _ st hcc r2 hst, List.getLast?_append]
    rfl
  have hold : ∀ r ∈ old, r.1 < (n : Int) := fun r hr => r3 r hr ((n : Int), l) (by simp)
  unfold newK
  rcases h.sec with rfl | rfl
  · have hc : Packed (readF f 4) ((c ++ [((n : Int), l)]).map bytesR) := h.pcur
    rw [secN_packed hc, hcur 4 _ (fun r hr => hpos r (List.mem_append_right _ hr))]
    have hp : Packed (readF f 5) (old.map bytesR) := h.pold
    rw [secN_packed hp]
    exact fold_old 5 old _ hoc hold
  · have hp : Packed (readF f 4) (old.map bytesR) := h.pold
    have hc : Packed (readF f 5) ((c ++ [((n : Int), l)]).map bytesR) := h.pcur
    rw [secN_packed hp, secN_packed hc, fold_new 4 old (0, [], 4) hoc r1 (fun r hr => hpos r (List.mem_append_left _ hr))]
    refine hcur 5 _ fun r hr => ?_
    cases ho : old.getLast? with
    | none => exact hpos r (List.mem_append_right _ hr)
    | some q => exact r3 q (List.mem_of_getLast? ho) r hr
/-- n saves were made, the last one of l -/
def KepI (f : FlashSt) (n : Nat) (l : List KepS) : Prop := ∃ s old cur, SecK f n s old cur ∧ ((n = 0 ∧ l = []) ∨ ∃ c, cur = c ++ [((n : Int), l)])
theorem KepI.new {f : FlashSt} {n : Nat} {l : List KepS} (h : KepI f n l) : ∃ s : Nat, (s = 4 ∨ s = 5) ∧ newK f = ((n : Int), l, (s : Int)) := by
  obtain ⟨s, old, cur, h, h0 | ⟨c, rfl⟩⟩ := h
  · obtain ⟨rfl, rfl⟩ := h0
    exact ⟨4, .inl rfl, h.new0⟩
  · exact ⟨s, h.sec, h.new1⟩
theorem kepI_new : KepI newF 0 [] := ⟨4, [], [], ⟨.inl rfl, packed_new 4 (by omega), packed_new 5 (by omega), by simp, by simp, by simp, .inl ⟨rfl, rfl, rfl, rfl⟩⟩, .inl ⟨rfl, rfl⟩⟩
theorem KepI.other {f f' : FlashSt} {n : Nat} {l : List KepS} (h : KepI f n l) (hr : ∀ i : Nat, 4 ≤ i → i < 6 → readF f' i = readF f i) : KepI f' n l := by
  obtain ⟨s, old, cur, h, h0⟩ := h
  have hs := h.sec
  exact ⟨s, old, cur, ⟨h.sec, by rw [hr s (by omega) (by omega)]; exact h.pcur, by rw [hr (9 - s) (by omega) (by omega)]; exact h.pold, h.ok, h.rise, h.top, h.last⟩, h0⟩
theorem SecK.step1 {f f' : FlashSt} {n s : Nat} {old cur : List Row} {k : List KepS} (h : SecK f n s old cur) (hP : Packed (readF f' (s : Int)) (cur.map bytesR ++ [bytesK ((n + 1 : Nat) : Int) k]))
    (hO : readF f' ((9 - s : Nat) : Int) = readF f ((9 - s : Nat) : Int)) (hk : CkOk ((n + 1 : Nat) : Int) k) : SecK f' (n + 1) s old (cur ++ [(((n + 1 : Nat) : Int), k)]) := by
  refine ⟨h.sec, ?_, ?_, ?_, ?_, ?_, .inr ⟨by omega, cur, k, rfl⟩⟩
  · rw [List.map_append]; exact hP
  · rw [hO]; exact h.pold
  · intro r hr
    rw [← List.append_assoc] at hr
    rcases List.mem_append.1 hr with hr | hr
    · exact h.ok r hr
    · simp at hr; subst hr; exact hk
  · rw [← List.append_assoc]
    refine List.pairwise_append.2 ⟨h.rise, by simp, fun a ha b hb => ?_⟩
    simp at hb
    subst hb
    have := h.top a ha
    dsimp only; omega
  · intro r hr
    rw [← List.append_assoc] at hr
    rcases List.mem_append.1 hr with hr | hr
    · have := h.top r hr; omega
    · simp at hr; subst hr; dsimp only; omega
theorem SecK.step2 {f f' : FlashSt} {n s : Nat} {old cur : List Row} {k : List KepS} (h : SecK f n s old cur) (hP : Packed (readF f' ((9 - s : Nat) : Int)) [bytesK ((n + 1 : Nat) : Int) k])
    (hO : readF f' (s : Int) = readF f (s : Int)) (hk : CkOk ((n + 1 : Nat) : Int) k) : SecK f' (n + 1) (9 - s) cur [(((n + 1 : Nat) : Int), k)] := by
  have hs := h.sec
  obtain ⟨_, r2, _⟩ := List.pairwise_append.1 h.rise
  refine ⟨by omega, hP, ?_, ?_, ?_, ?_, .inr ⟨by omega, [], k, rfl⟩⟩
  · rw [show 9 - (9 - s) = s by omega, hO]; exact h.pcur
  · intro r hr
    rcases List.mem_append.1 hr with hr | hr
    · exact h.ok r (by simp [hr])
    · simp at hr; subst hr; exact hk
  · refine List.pairwise_append.2 ⟨r2, by simp, fun a ha b hb => ?_⟩
    simp at hb
    subst hb
    have := h.top a (by simp [ha])
    dsimp only; omega
  · intro r hr
    rcases List.mem_append.1 hr with hr | hr
    · have := h.top r (by simp [hr]); omega
    · simp at hr; subst hr; dsimp only; omega
theorem KepI.sec {f : FlashSt} {n : Nat} {l : List KepS} (h : KepI f n l) : ∃ s old cur, SecK f n s old cur ∧ newK f = ((n : Int), l, (s : Int)) := by
  obtain ⟨s, old, cur, h, h0 | ⟨c, rfl⟩⟩ := h
  · obtain ⟨rfl, rfl⟩ := h0
    refine ⟨s, old, cur, h, ?_⟩
    rcases h.last with ⟨_, rfl, _⟩ | ⟨hn, _⟩
    · exact h.new0
    · omega
  · exact ⟨s, old, _, h, h.new1⟩
theorem KepI.save {f : FlashSt} {n : Nat} {l : List KepS} (h : KepI f n l) (hL : Live f) (hn : n < 1073741824) (k : List KepS) (hk : CkOk ((n + 1 : Nat) : Int) k) (hb : (bytesK ((n + 1 : Nat) : Int) k).length ≤ 1018) :
    ∃ f', saveK f k = (0, f') ∧ Live f' ∧ KepI f' (n + 1) k ∧ (∀ j : Nat, j < 4 → readF f' j = readF f j) ∧
      ∀ D : Nat, f.done = (D : Int) → D ≤ 100000 → f'.done = ((D + pagesN (bytesK ((n + 1 : Nat) : Int) k).length : Nat) : Int) ∨ f'.done = ((D + pagesN (bytesK ((n + 1 : Nat) : Int) k).length + 1 : Nat) : Int) := by
  obtain ⟨s, old, cur, h, hnew⟩ := h.sec
  have hs := h.sec
  have hp64 : pagesN (bytesK ((n + 1 : Nat) : Int) k).length ≤ 64 := by unfold pagesN; omega
  have hc : (9 : Int) - (s : Int) = ((9 - s : Nat) : Int) := by omega
  have hq : (n : Int) + 1 = ((n + 1 : Nat) : Int) := by omega
  have hsv : saveK f k = writeK f (s : Int) (bytesK ((n + 1 : Nat) : Int) k) := by
    unfold saveK
    rw [if_neg (by have := hk.cnt; omega), hnew, if_neg (by dsimp only; omega)]
    dsimp only
    rw [hq]
  rw [hsv]
  by_cases hu : usedP (cur.map bytesR) + pagesN (bytesK ((n + 1 : Nat) : Int) k).length ≤ 64
  · obtain ⟨f', ha, hL', hP', hr⟩ := append_packed f hL s (by omega) _ h.pcur (bytesK ((n + 1 : Nat) : Int) k) hb hu
    refine ⟨f', ?_, hL', ⟨s, old, _, h.step1 hP' (hr _ (by omega) (by omega)) hk, .inr ⟨cur, rfl⟩⟩, fun j hj => hr j (by omega) (by omega), fun D hD h6 => .inl (append_done ha hL.left hD (by omega) hb)⟩
    unfold writeK
    rw [ha, if_pos (by simp)]
  · have ha := append_full f s (by omega) _ h.pcur (bytesK ((n + 1 : Nat) : Int) k) hb (by omega)
    obtain ⟨f1, he, hL1, hd1, hP1, hr1⟩ := erase_live f hL (9 - s) (by omega)
    obtain ⟨f', ha2, hL', hP', hr⟩ := append_packed f1 hL1 (9 - s) (by omega) _ hP1 (bytesK ((n + 1 : Nat) : Int) k) hb (by simpa [usedP] using hp64)
    refine ⟨f', ?_, hL', ⟨9 - s, cur, _, h.step2 hP' (by rw [hr _ (by omega) (by omega), hr1 _ (by omega) (by omega)]) hk, .inr ⟨[], rfl⟩⟩, fun j hj => by rw [hr j (by omega) (by omega), hr1 j (by omega) (by omega)], fun D hD h6 => .inr ?_⟩
    · unfold writeK
      rw [ha, if_neg (by simp), hc, he, if_neg (by simp)]
      exact ha2
    · have hd2 : f1.done = ((D + 1 : Nat) : Int) := by rw [hd1, hD]; unfold wrap64; omega
      rw [append_done ha2 hL1.left hd2 (by omega) hb]
      congr 1
      omega

/-! ### a save while the power goes that tells OK is whole -/
theorem KepI.torn {f : FlashSt} {n : Nat} {l : List KepS} (h : KepI f n l) (hL : Live f) (hn : n < 1073741824) (m : Nat) (hm : 0 < m) (mask : List UInt8) (k : List KepS) (hk : CkOk ((n + 1 : Nat) : Int) k) (hb : (bytesK ((n + 1 : Nat) : Int) k).length ≤ 1018)
    (h0 : (saveK (stopF f (m : Int) mask) k).1 = 0) : KepI (saveK (stopF f (m : Int) mask) k).2 (n + 1) k := by
  have hA : Armed (stopF f (m : Int) mask) m := ⟨hL.dead, by show max (m : Int) 0 = m; omega, hL.len⟩
  have h := h.other (f' := stopF f (m : Int) mask) fun _ _ _ => rfl
  clear hL
  generalize stopF f (m : Int) mask = f at hA h h0 ⊢
  obtain ⟨s, old, cur, h, hnew⟩ := h.sec
  have hs := h.sec
  have hp64 : pagesN (bytesK ((n + 1 : Nat) : Int) k).length ≤ 64 := by unfold pagesN; omega
  have hc : (9 : Int) - (s : Int) = ((9 - s : Nat) : Int) := by omega
  have hq : (n : Int) + 1 = ((n + 1 : Nat) : Int) := by omega
  have hsv : saveK f k = writeK f (s : Int) (bytesK ((n + 1 : Nat) : Int) k) := by
    unfold saveK
    rw [if_neg (by have := hk.cnt; omega), hnew, if_neg (by dsimp only; omega)]
    dsimp only
    rw [hq]
  rw [hsv] at h0 ⊢
  by_cases hu : usedP (cur.map bytesR) + pagesN (bytesK ((n + 1 : Nat) : Int) k).length ≤ 64
  · obtain ⟨f', ha, hlen, _, hT, hr⟩ := torn_append f m hA hm s (by omega) _ h.pcur (bytesK ((n + 1 : Nat) : Int) k) hb hu
    have hw : writeK f (s : Int) (bytesK ((n + 1 : Nat) : Int) k) = (if m ≤ pagesN (bytesK ((n + 1 : Nat) : Int) k).length then 14 else 0, f') := by
      unfold writeK
      rw [ha, if_pos (by dsimp only; split <;> omega)]
    rw [hw] at h0 ⊢
    have hgt : pagesN (bytesK ((n + 1 : Nat) : Int) k).length < m := by
      dsimp only at h0
      split at h0
      · cases h0
      · omega
    exact ⟨s, old, _, h.step1 (hT.whole hgt hb) (hr _ (by omega) (by omega)) hk, .inr ⟨cur, rfl⟩⟩
  · have ha := append_full f s (by omega) _ h.pcur (bytesK ((n + 1 : Nat) : Int) k) hb (by omega)
    by_cases h1 : m = 1
    · subst h1
      obtain ⟨f1, e1, _⟩ := torn_erase f (9 - s) hA.dead hA.left (by omega) hA.len
      have hw : (writeK f (s : Int) (bytesK ((n + 1 : Nat) : Int) k)).1 = 14 := by
        unfold writeK
        rw [ha, if_neg (by simp), hc, e1, if_pos (by simp)]
      rw [hw] at h0
      cases h0
    · obtain ⟨q, rfl⟩ : ∃ q, m = q + 2 := ⟨m - 2, by omega⟩
      obtain ⟨f1, he, hA1, hP1, hr1⟩ := more_erase f (9 - s) q hA (by omega)
      obtain ⟨f', ha2, hlen, _, hT, hr⟩ := torn_append f1 (q + 1) hA1 (by omega) (9 - s) (by omega) _ hP1 (bytesK ((n + 1 : Nat) : Int) k) hb (by simpa [usedP] using hp64)
      have hw : writeK f (s : Int) (bytesK ((n + 1 : Nat) : Int) k) = (if q + 1 ≤ pagesN (bytesK ((n + 1 : Nat) : Int) k).length then 14 else 0, f') := by
        unfold writeK
        rw [ha, if_neg (by simp), hc, he, if_neg (by simp)]
        exact ha2
      rw [hw] at h0 ⊢
      have hgt : pagesN (bytesK ((n + 1 : Nat) : Int) k).length < q + 1 := by
        dsimp only at h0
        split at h0
        · cases h0
        · omega
      exact ⟨9 - s, cur, _, h.step2 (hT.whole hgt hb) (by rw [hr _ (by omega) (by omega), hr1 _ (by omega) (by omega)]) hk, .inr ⟨[], rfl⟩⟩
end Go.Proofs.Ytcpifcdndhhmgaa
