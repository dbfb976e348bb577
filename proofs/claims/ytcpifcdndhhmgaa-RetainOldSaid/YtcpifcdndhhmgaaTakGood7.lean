/- The cells of a row of variables. A number from 0 to n - 1: plainly. within of the law's package. Regions that draw their order and whose last operation waits for all others: what all worlds of the region meet need not be met behind it. No program in sight. Types such as may be, of raw ones. -/
import Derived.Test.YtcpifcdndhhmgaaTakOf
import Derived.Test.YtcpifcdndhhmgaaLib
import Derived.Test.YtcpifcdndhhmgaaChecked
import Derived.Test.YtcpifcdndhhmgaaKnT
import Derived.Test.YtcpifcdndhhmgaaKnR
import Derived.Test.YtcpifcdndhhmgaaRetRd
import Derived.Test.YtcpifcdndhhmgaaKnF
import Derived.Test.YtcpifcdndhhmgaaTakTake
set_option linter.unusedVariables false
set_option linter.unusedSimpArgs false
namespace Go.Proofs.Ytcpifcdndhhmgaa
open Go.RowKit
attribute [local go_sem] ev_tmp ev_const ev_func ev_global lk_hit lk_miss uponK_value uponK_skip look_tmp look_const look_global look_func valP_value
theorem cells_next (l : List SymA) (k : Nat) (a : SymA) (h : l.take (k + 1) = l.take k ++ [a]) : cellsP ((l.take (k + 1)).map (·.s)) = cellsP ((l.take k).map (·.s)) ++ ofP a.s := by
  rw [h]; simp [cellsP]
theorem cellsP_len (l : List SymA) (k : Nat) (hok : ∀ a ∈ l, TypOk a.s.typ ∧ a.s.name.length ≤ 1000) : (cellsP ((l.take k).map (·.s))).length ≤ 8 * k := by
  have h1 := cells_len' ((l.take k).map (·.s)) (fun s hs => by
    obtain ⟨a, ha, rfl⟩ := List.mem_map.1 hs
    exact (hok a (List.mem_of_mem_take ha)).1)
  have h2 : ((l.take k).map (·.s)).length ≤ k := by simp; omega
  omega
theorem of_len_pos {s : SymV} (h : TypOk s.typ) : 0 < (ofP s).length ∧ (ofP s).length ≤ 8 := by
  have h1 := base_pos h
  have h2 := base_le h
  have h3 : (ofP s).length = (baseP s).length := by simp [ofP]
  omega
theorem symSize2 (a : SymA) : (Try.prog.info? 73).map (·.size) = some (symC a).length := by rw [symSize]; rfl
set_option maxRecDepth 100000 in
set_option maxHeartbeats 2000000 in
theorem cells8_any (A : Option Addr) (n c : Nat) (l : List SymA) (w : World) (hA : Syms w A n l) (hn : n ≤ 1000) (hok : ∀ a ∈ l, TypOk a.s.typ ∧ a.s.name.length ≤ 1000) :
    Calls Try.prog 27 #[.slice A n c] w fun e w' => ∃ A n c, e = .returned (.slice A n c) ∧ Rw cellE w' A n (cellsP (l.map (·.s))) ∧ n ≤ c ∧ c ≤ 9223372036854775807 ∧ Below w.heap.size w w' ∧ (∀ a, A = some a → w.heap.size ≤ a.block) := by
  have HL := Lib.hid hA.row.len
  have HOK := Lib.hid hok
  refine calls_kw Try.func27 rfl Try.ntmps27 rfl [(0, .slice A n c)] rfl ?_
  repeat (first | refine kw_seq ?_ | refine kw_region ?_ | refine kl_nil ?_ | refine kq_then ?_ | (first | refine kl_move rfl rfl (.inl rfl) rfl rfl ?_ | refine kl_move rfl rfl (.inr rfl) rfl rfl ?_ | refine kl_const rfl rfl (.inl rfl) rfl ?_ | refine kl_const rfl rfl (.inr rfl) rfl ?_))
  refine KW.less [0, 3, 4] ?_
  simp only [nrm, lk, Nat.reduceBEq, cond_true, cond_false]
  refine kw_block ?_
  refine kw_loop (fun mm L W => ∃ k v, k ≤ n ∧ mm = n - k ∧ Hid (Below w.heap.size w W) ∧ Hid (W.ownsRow w.heap.size 63 6 v (cellsP ((l.take k).map (·.s))).length (flatR cellE (cellsP ((l.take k).map (·.s))))) ∧ L = [(0, .slice A n c), (3, v), (4, .int .i64 (k : Int))]) ⟨0, .slice none 0 0, by omega, rfl, Below.refl _ _, World.ownsRow_nil _ _ _ _, rfl⟩ ?_
  rintro mm L W ⟨k, v, hk, rfl, hb, ho, rfl⟩
  by_cases hlt : k < n
  case neg =>
    obtain rfl : n = k := by omega
    have t1 : decide ((n : Int) < (n : Int)) = false := by simp
    have t1n : decide (n < n) = false := by simp
    rw [List.take_of_length_le (by rw [HL.out]; exact Nat.le_refl _)] at ho
    obtain ⟨A9, c9, rfl, hr9, hn9, hc9, _, hf9⟩ := own_rw (E := cellE) ho.out rfl
    clear hlt
    repeat (first | refine kw_seq ?_ | refine kw_block ?_ | refine kw_skip ?_ | refine kw_region ?_ | refine kl_nil ?_ | refine kq_then ?_ | refine kq_block ?_ | refine kw_exit ?_ | refine kq_then_exit ?_ | refine kq_block_here rfl ?_ | refine kq_block_far rfl ?_ | refine kq_again_exit ?_ | refine kw_ret ?_ | refine kq_then_ret ?_ | refine kq_block_ret ?_ | refine kq_again_ret ?_ | refine kw_ift rfl ?_ | refine kw_iff rfl ?_ | refine kl_ung rfl rfl ?_ | refine kl_skipg rfl rfl rfl rfl ?_ | refine kl_skipg0 rfl rfl rfl ?_ | (first | refine kl_move rfl rfl (.inl rfl) rfl rfl ?_ | refine kl_move rfl rfl (.inr rfl) rfl rfl ?_ | refine kl_const rfl rfl (.inl rfl) rfl ?_ | refine kl_const rfl rfl (.inr rfl) rfl ?_) | ((first | refine kl_step rfl rfl rfl fun K hK => ?_ | refine kl_step0 rfl rfl rfl fun K hK => ?_); go_simp; (try go_bits); (first | refine hK _ _ ?_ | refine hK _ ?_); clear hK K))
    exact kq_ret1 rfl rfl ⟨_, _, _, rfl, hr9, hn9, hc9, hb.out, hf9⟩
  have t1 : decide ((k : Int) < (n : Int)) = true := by rw [decide_eq_true_eq]; omega
  have t1n : decide (k < n) = true := decide_eq_true hlt
  have u0 : (0 : Int) ≤ k := by omega
  have u1 : (k : Int) < n := by omega
  obtain ⟨g, o, a, rfl, hr, ht, hx⟩ := hA.row.next hlt
  have hrt : Hid (W.rangeAt g (o + k * 7) (symC a)) := fun j u hu => Keeps.of_below hb.out _ _ (hr j u hu)
  have HM := Lib.hid (hA.mem a (List.mem_of_getElem? hx.out))
  have HT := Lib.hid (HOK.out a (List.mem_of_getElem? hx.out))
  obtain ⟨nk, hnk⟩ : ∃ nk, k + 1 = nk := ⟨_, rfl⟩
  have k1 : (k : Int) + 1 = (nk : Int) := by omega
  have k2 : (0 : Int) ≤ nk := by omega
  have k3 : (nk : Int) ≤ 1000 := by omega
  have hnx := cells_next l k a ht.out
  rw [hnk] at hnx
  have HNX := Lib.hid hnx
  have HLE := Lib.hid (cellsP_len l k hok)
  have HK := Lib.hid (And.intro hnk hlt)
  clear hr hlt hk hnk ht hx hnx
  obtain ⟨cur, hcur⟩ : ∃ cur, cellsP ((l.take k).map (·.s)) = cur := ⟨_, rfl⟩
  rw [hcur] at ho HNX HLE
  clear hcur
  repeat (first | refine kw_seq ?_ | refine kw_block ?_ | refine kw_region ?_ | refine kl_nil ?_ | refine kq_then ?_ | refine kw_ift rfl ?_ | refine kw_skip ?_ | refine kl_ung rfl rfl ?_ | refine kl_load_mid 73 g _ _ _ hrt.out Try.underlying73 rfl (symSize2 _) rfl rfl rfl rfl rfl ?_ | (first | refine kl_move rfl rfl (.inl rfl) rfl rfl ?_ | refine kl_move rfl rfl (.inr rfl) rfl rfl ?_ | refine kl_const rfl rfl (.inl rfl) rfl ?_ | refine kl_const rfl rfl (.inr rfl) rfl ?_) | ((first | refine kl_step rfl rfl rfl fun K hK => ?_ | refine kl_step0 rfl rfl rfl fun K hK => ?_); go_simp; (try go_bits); (first | refine hK _ _ ?_ | refine hK _ ?_); clear hK K))
  refine kl_call rfl rfl rfl Try.func50 rfl (by kernel_rfl) rfl ?_
  refine Calls.mono (of_any a W (HM.out.keep (.of_below hb.out)) HT.out.1 HT.out.2) ?_
  rintro e w2 ⟨A2, n2, c2, rfl, hr2, hn2, hc2, hb2⟩
  refine ⟨_, rfl, ?_⟩
  have HO2 := Lib.hid (own_below ho.out hb2)
  have HB2 := Lib.hid (below_then hb.out hb2 hb.out.size)
  have hlp := of_len_pos HT.out.1
  have hl2 : (ofP a.s).length = n2 := hr2.len
  obtain ⟨b2, o2, rfl, hcl⟩ := hr2.flat.2 (by show 0 < n2 * 6; omega)
  have hfl : (flatR cellE (ofP a.s)).length = n2 * 6 := by rw [flatR_len, hl2]; rfl
  have hle2 : n2 ≤ 8 := by omega
  clear hr2 hb2 hb ho hlp
  refine kl_appendN 58 63 _ 6 56 Try.underlying58 cellInfo3 rfl (by omega) w.heap.size v cur.length (flatR cellE cur) HO2.out b2 o2 n2 c2 (flatR cellE (ofP a.s)) hfl hcl (flatR_one cellE _) (by have := HLE.out; have := HK.out; omega) (by have := HLE.out; have := HK.out; omega) HB2.out.size rfl rfl rfl rfl rfl rfl ?_
  intro v4 w4 ho4 hg4 hv4
  have HB4 := Lib.hid (below_appendN HB2.out hg4 HO2.out HB2.out.size)
  rw [← hl2, ← List.length_append, ← flatR_append, ← HNX.out] at ho4
  have HO4 := Lib.hid ho4
  clear ho4 hg4 hv4 HO2 HB2 hcl hfl hl2
  repeat (first | refine kw_seq ?_ | refine kw_block ?_ | refine kw_region ?_ | refine kl_nil ?_ | refine kq_then ?_ | refine kq_block ?_ | refine kw_ift rfl ?_ | refine kw_iff rfl ?_ | refine kw_skip ?_ | refine kl_ung rfl rfl ?_ | refine kl_skipg rfl rfl rfl rfl ?_ | (first | refine kl_move rfl rfl (.inl rfl) rfl rfl ?_ | refine kl_move rfl rfl (.inr rfl) rfl rfl ?_ | refine kl_const rfl rfl (.inl rfl) rfl ?_ | refine kl_const rfl rfl (.inr rfl) rfl ?_) | ((first | refine kl_step rfl rfl rfl fun K hK => ?_ | refine kl_step0 rfl rfl rfl fun K hK => ?_); go_simp; (try go_bits); (first | refine hK _ _ ?_ | refine hK _ ?_); clear hK K))
  refine kq_again (n - nk) [0, 3, 4] (by have := HK.out; omega) ?_
  exact ⟨nk, v4, by have := HK.out; omega, rfl, HB4, HO4, rfl⟩
end Go.Proofs.Ytcpifcdndhhmgaa
set_option linter.unusedVariables false
set_option linter.unusedSimpArgs false
namespace Go.Proofs.Ytcpifcdndhhmgaa
open Go.RowKit

/-- a number from 0 to n - 1 -/
def within (x : Int) (n : Nat) : Nat := (x % (n : Int)).toNat
end Go.Proofs.Ytcpifcdndhhmgaa
set_option linter.unusedVariables false
set_option linter.unusedSimpArgs false
namespace Go.Proofs.Ytcpifcdndhhmgaa
open Go.RowKit

end Go.Proofs.Ytcpifcdndhhmgaa
set_option linter.unusedVariables false
set_option linter.unusedSimpArgs false
namespace Go.Proofs.Ytcpifcdndhhmgaa
open Go.RowKit
def WTz (z : Nat) (P : Program) (l : List Oper) (R : World → Prop) (Q : Exit → Act → World → Prop) (fls : List Bool) : Nat → List Nat → Act → World → Prop
  | 0, rem, a, w => rem = [] ∧ Q .normal a w
  | k + 1, rem, a, w =>
    (∃ i o v, i ∈ rem ∧ nthB fls i = true ∧ freeI (masksFrom [] l) rem i = true ∧ nthO l i = some o ∧ YieldsR P l.toArray R o v a ∧ WTz z P l R Q fls k (rem.erase i) (a.put o.dst v) w) ∨
    ((∀ i ∈ rem, nthB fls i = true → freeI (masksFrom [] l) rem i = false) ∧ ∀ i ∈ rem, freeI (masksFrom [] l) rem i = true → ∃ o, nthO l i = some o ∧ wpList P l.toArray (FQ (fun w => i = z ∨ R w) (WTz z P l R Q fls k (rem.erase i))) [o] a w)
/-- the last one waits for all others -/
def lastOk (z : Nat) (fls : List Bool) (l : List Oper) : Bool := !nthB fls z && decide (z < l.length) && (List.range l.length).all fun j => j == z || ((masksFrom [] l).getD z 0).testBit j
section
variable {z : Nat} {P : Program} {l : List Oper} {R : World → Prop} {Q : Exit → Act → World → Prop} {fls : List Bool}
end
/-! ### over what is known -/
structure KTz (z : Nat) (P : Program) (l : List Oper) (R : World → Prop) (Q : Exit → Act → World → Prop) (fls : List Bool) (rem : List Nat) (n : Nat) (L : Slots) (w : World) : Prop where
  h : ∀ a, Kn n L a → WTz z P l R Q fls rem.length rem a w
/-- what a stretch ends in: the walk over what is left -/
def QTz (z : Nat) (P : Program) (l : List Oper) (R : World → Prop) (Q : Exit → Act → World → Prop) (fls : List Bool) (rem : List Nat) : Exit → Act → World → Prop := QN (WTz z P l R Q fls rem.length rem)
section
variable {z : Nat} {P : Program} {l : List Oper} {R : World → Prop} {Q : Exit → Act → World → Prop} {fls : List Bool} {n : Nat} {L : Slots} {w : World} {rem : List Nat}
end
end Go.Proofs.Ytcpifcdndhhmgaa
set_option linter.unusedVariables false
set_option linter.unusedSimpArgs false
namespace Go.Proofs.Ytcpifcdndhhmgaa
open Go.RowKit
attribute [local go_sem] ev_tmp ev_const ev_func ev_global lk_hit lk_miss uponK_value uponK_skip look_tmp look_const look_global look_func valP_value
def fName (i : Nat) : List UInt8 := [102, UInt8.ofNat (48 + i)]
/-- fields such as may be -/
structure FsOk (k : Nat) (fs : List FldV) : Prop where
  len : fs.length = k
  at_ : ∀ i f, fs[i]? = some f → f.name = fName i ∧ 1 ≤ f.kind ∧ f.kind ≤ 6
theorem FsOk.nil : FsOk 0 [] := ⟨rfl, fun i f h => by simp at h⟩
theorem FsOk.next {k : Nat} {fs : List FldV} (h : FsOk k fs) (z : Int) (hz : 1 ≤ z ∧ z ≤ 6) : FsOk (k + 1) (fs ++ [⟨fName k, z⟩]) :=
  ⟨by simp [h.len], fun i f hi => by
    rcases Nat.lt_trichotomy i k with hl | rfl | hl
    · rw [List.getElem?_append_left (by rw [h.len]; exact hl)] at hi; exact h.at_ i f hi
    · rw [List.getElem?_append_right (by rw [h.len]; exact Nat.le_refl _), h.len, Nat.sub_self] at hi
      simp at hi; subst hi; exact ⟨rfl, hz⟩
    · have := (List.getElem?_eq_some_iff.1 hi).1
      simp [h.len] at this; omega⟩
theorem FsOk.typ {k : Nat} {fs : List FldV} (h : FsOk k fs) (h1 : 1 ≤ k) (h2 : k ≤ 4) : TypOk ⟨8, 0, 0, fs⟩ := by
  refine ⟨⟨by show (1 : Int) ≤ 8; decide, by show (8 : Int) ≤ 10; decide⟩, fun e => by simp at e, fun e => by simp at e, fun _ => by show 1 ≤ fs.length; rw [h.len]; exact h1, fun f hf => ?_, by show fs.length ≤ 6; rw [h.len]; omega, ?_⟩
  · obtain ⟨i, hi⟩ := List.getElem?_of_mem hf
    obtain ⟨a, b, c⟩ := h.at_ i f hi
    exact ⟨b, c, by rw [a]; simp [fName]⟩
  · show (fs.map (·.name)).Nodup
    rw [List.Nodup, List.pairwise_iff_getElem]
    intro i j hi hj hij e
    simp only [List.length_map] at hi hj
    rw [List.getElem_map, List.getElem_map] at e
    have a1 := (h.at_ i _ (List.getElem?_eq_getElem hi)).1
    have a2 := (h.at_ j _ (List.getElem?_eq_getElem hj)).1
    rw [a1, a2] at e
    unfold fName at e
    simp at e
    have := congrArg UInt8.toNat e
    have hl := h.len
    simp at this
    omega
theorem typ_bare (k : Int) (h : 1 ≤ k ∧ k ≤ 10) (h7 : k ≠ 7) (h8 : k ≠ 8) : TypOk ⟨k, 0, 0, []⟩ :=
  ⟨h, fun e => absurd e h7, fun e => absurd e h7, fun e => absurd e h8, fun f hf => absurd hf (by simp), by simp, by simp⟩
theorem typ_arr (e n : Int) (he : 1 ≤ e ∧ e ≤ 6) (hn : 1 ≤ n ∧ n ≤ 8) : TypOk ⟨7, e, n, []⟩ :=
  ⟨⟨by show (1 : Int) ≤ 7; decide, by show (7 : Int) ≤ 10; decide⟩, fun _ => he, fun _ => hn, fun e => by simp at e, fun f hf => absurd hf (by simp), by simp, by simp⟩
def typZ : TypV := ⟨0, 0, 0, []⟩
theorem typZero : (Try.prog.info? 71).bind (·.zero) = some (.agg (typC typZ none 0 0).toArray) := by kernel_rfl
theorem typUnder : ∃ fs, Try.prog.underlying 71 = some (.struct fs) ∧ fs.toList.mapM (fun f => (Try.prog.info? f.type).map fun i => (f.offset, i.size)) = some [(0, 1), (1, 1), (2, 1), (3, 1)] := ⟨_, Try.underlying71, by kernel_rfl⟩
theorem typBuilt1 (q : Int) : Try.prog.built 71 [(0, .int .i64 q)] = some (typC ⟨q, 0, 0, []⟩ none 0 0).toArray := by
  obtain ⟨fs, hu, hp⟩ := typUnder
  rw [built_struct typZero hu hp]
  refine (fill_step _ [] (typC typZ none 0 0) 0 (.int .i64 q) [.int .i64 q] rfl rfl (by simp [typC]) []).trans ?_
  rw [fill_nil]; rfl
/-- what all worlds of the fields' region meet -/
def R7 (wa : World) (g3 : Nat) (v : Value) (W : World) : Prop := Below wa.heap.size wa W ∧ W.cell? ⟨g3, 3, none⟩ = some v
/-- a struct with its fields so far -/
structure FsM (wa w : World) (g3 : Nat) (v : Value) (k : Nat) (fs : List FldV) : Prop where
  lay : Lay wa w [(g3, #[.int .i64 8, .int .i64 0, .int .i64 0, v], 71)]
  own : w.ownsRow wa.heap.size 118 2 v k (flatR fldE fs)
  ne : v.ownBlock ≠ some g3
theorem FsM.next {wa w w' : World} {g3 k : Nat} {v : Value} {fs : List FldV} (h : FsM wa w g3 v k fs) (hb : Below w.heap.size w w') : FsM wa w' g3 v k fs := ⟨h.lay.next hb, own_below h.own hb, h.ne⟩
theorem FsM.r {wa w : World} {g3 k : Nat} {v : Value} {fs : List FldV} (h : FsM wa w g3 v k fs) : R7 wa g3 v w := ⟨h.lay.below, h.lay.get (cs := [.int .i64 8, .int .i64 0, .int .i64 0, v]) (j := 3) 0 rfl rfl⟩
theorem FsM.lit {wa w : World} {g3 k : Nat} {v : Value} {fs : List FldV} (h : FsM wa w g3 v k fs) (cs : Array Value) (t : TypeId) : FsM wa (w.alloc (.cells cs t)) g3 v k fs := h.next ((Below.refl _ _).alloc (Nat.le_refl _) _)
theorem FsM.app {wa w w' : World} {g3 k n : Nat} {v v' : Value} {fs : List FldV} {xs : List Value} (h : FsM wa w g3 v k fs) (ho : w'.ownsRow wa.heap.size 118 2 v' n xs) (hg : w.grownBy w' v.ownBlock) (hv : v'.ownBlock = v.ownBlock ∨ v'.ownBlock = some w.heap.size) :
    Lay wa w' [(g3, #[.int .i64 8, .int .i64 0, .int .i64 0, v], 71)] ∧ w'.ownsRow wa.heap.size 118 2 v' n xs ∧ v'.ownBlock ≠ some g3 := by
  refine ⟨lay_own1 h.lay hg h.own h.ne, ho, ?_⟩
  rcases hv with e | e
  · rw [e]; exact h.ne
  · rw [e]
    have := h.lay.lt 0 rfl
    intro e2
    injection e2 with e2
    omega
theorem FsM.store {wa w : World} {g3 k : Nat} {v v' : Value} {fs : List FldV} (hl : Lay wa w [(g3, #[.int .i64 8, .int .i64 0, .int .i64 0, v], 71)]) (ho : w.ownsRow wa.heap.size 118 2 v' k (flatR fldE fs)) (hne : v'.ownBlock ≠ some g3) : FsM wa (w.setCell ⟨g3, 3, none⟩ v') g3 v' k fs :=
  ⟨hl.cell (cs := [.int .i64 8, .int .i64 0, .int .i64 0, v]) 0 rfl 3 v', ho.kept (grown_set w g3 3 v') (.inr hne), hne⟩
/-- what stands behind the kinds -/
structure GoodM (wa w : World) (g3 : Nat) (x : TypV) (FA : Option Addr) (fn fc : Nat) : Prop where
  ok : TypOk x
  lay : Lay wa w [(g3, (typC x FA fn fc).toArray, 71)]
  mem : TypM w x FA fn fc
  far : ∀ a, FA = some a → wa.heap.size ≤ a.block
end Go.Proofs.Ytcpifcdndhhmgaa
