/- == on what is kept; the law's same. within of the law's package. No block at all. Checkpoints: the chapter's example. Rows that are not too much, plainly. Rows of variables that are built, in memory. Ranges over a function that yields two values. No program in sight. -/
import Derived.Test.YtcpifcdndhhmgaaRetMem
import Derived.Test.YtcpifcdndhhmgaaKnF
import Derived.Test.YtcpifcdndhhmgaaRetRd
import Derived.DeepKeys
import Derived.Test.YtcpifcdndhhmgaaChecked
import Derived.Test.YtcpifcdndhhmgaaTakGood7
import Derived.Test.YtcpifcdndhhmgaaRetSave
import Derived.Test.YtcpifcdndhhmgaaRetL
import Derived.Test.YtcpifcdndhhmgaaCrcSum
import Derived.Test.YtcpifcdndhhmgaaKnJ
set_option linter.unusedVariables false
set_option linter.unusedSimpArgs false
namespace Go.Proofs.Ytcpifcdndhhmgaa
open Go.RowKit
attribute [local go_sem] ev_tmp ev_const ev_func ev_global lk_hit lk_miss uponK_value uponK_skip look_tmp look_const look_global look_func valP_value
def eqK (a b : KepS) : Bool := a.path == b.path && (a.kind == b.kind && a.value == b.value)
def eqKs (l m : List KepS) : Bool := l.length == m.length && (List.range l.length).all fun i => eqK (l.getD i kepZ) (m.getD i kepZ)
end Go.Proofs.Ytcpifcdndhhmgaa
set_option linter.unusedVariables false
set_option linter.unusedSimpArgs false
namespace Go.Proofs.Ytcpifcdndhhmgaa
open Go.RowKit

end Go.Proofs.Ytcpifcdndhhmgaa
set_option linter.unusedVariables false
set_option linter.unusedSimpArgs false
namespace Go.Proofs.Ytcpifcdndhhmgaa
def NoB : Nat → Prop := fun _ => False
theorem noB (g : Nat) : ∀ b, NoB b → b ≠ g := fun _ h => h.elim
end Go.Proofs.Ytcpifcdndhhmgaa
set_option linter.unusedVariables false
set_option linter.unusedSimpArgs false
namespace Go.Proofs.Ytcpifcdndhhmgaa
open Go.RowKit
attribute [local go_sem] ev_tmp ev_const ev_func ev_global lk_hit lk_miss uponK_value uponK_skip look_tmp look_const look_global look_func valP_value
def kx : KepS := ⟨[120], 4, 5⟩
theorem kx_ok : KepOk kx := ⟨by decide, by decide, by kernel_rfl⟩
theorem ck_one (n : Nat) (hn : n < 1000) : CkOk ((n + 1 : Nat) : Int) [kx] := ⟨by omega, by decide, fun k hk => by simp at hk; subst hk; exact kx_ok⟩
theorem kepOk_i64 {k : KepS} (h : KepOk k) : I64 k.kind ∧ I64 k.value := by
  have := mayK_kind h.may
  exact ⟨by unfold I64; omega, h.val⟩
theorem CkOk.kv {n : Int} {l : List KepS} (h : CkOk n l) : KepV l := ⟨fun k hk => (h.all k hk).path, fun k hk => (kepOk_i64 (h.all k hk)).1, fun k hk => (kepOk_i64 (h.all k hk)).2⟩
theorem save_first : ∃ f1, saveK newF [kx] = (0, f1) ∧ newK newF = (0, [], 4) ∧ ∃ s : Int, newK f1 = (1, [kx], s) := by
  obtain ⟨f1, h1, h2, h3, _⟩ := kepI_new.save live_new (by omega) [kx] (ck_one 0 (by omega)) (by decide)
  obtain ⟨s0, hs0, h0⟩ := kepI_new.new
  obtain ⟨s, hs, h4⟩ := h3.new
  have hz : newK newF = (0, [], 4) := by
    obtain ⟨s, o, c, hS, _⟩ := kepI_new
    exact hS.new0
  exact ⟨f1, h1, hz, s, h4⟩
set_option maxRecDepth 100000 in
set_option maxHeartbeats 2000000 in
theorem known16_any (w : World) : Calls Try.prog 8 #[] w fun e w' => e = .returned (.bool true) ∧ Below w.heap.size w w' := by
  obtain ⟨f1, hs1, hn0, s9, hn1⟩ := save_first
  have HS1 := Lib.hid hs1
  have HN0 := Lib.hid hn0
  have HN1 := Lib.hid hn1
  clear hs1 hn0 hn1
  refine calls_kw (args := []) Try.func8 rfl Try.ntmps8 rfl [] rfl ?_
  repeat (first | refine kw_seq ?_ | refine kw_region ?_ | refine kl_nil ?_ | refine kq_then ?_ | refine kw_iff rfl ?_ | refine kw_skip ?_ | refine kw_block ?_ | refine kl_ung rfl rfl ?_ | refine kl_skipg rfl rfl rfl rfl ?_ | (first | refine kl_move rfl rfl (.inl rfl) rfl rfl ?_ | refine kl_move rfl rfl (.inr rfl) rfl rfl ?_ | refine kl_const rfl rfl (.inl rfl) rfl ?_ | refine kl_const rfl rfl (.inr rfl) rfl ?_) | ((first | refine kl_step rfl rfl rfl fun K hK => ?_ | refine kl_step0 rfl rfl rfl fun K hK => ?_); go_simp; (try go_bits); (first | refine hK _ _ ?_ | refine hK _ ?_); clear hK K))
  refine kl_call rfl rfl rfl Try.func10 rfl (by kernel_rfl) rfl ?_
  refine Calls.mono (new_any w) ?_
  rintro e w1 ⟨rfl, hf1, hb1⟩
  refine ⟨_, rfl, ?_⟩
  obtain ⟨g, hg⟩ : ∃ g, w.heap.size = g := ⟨_, rfl⟩
  rw [hg] at hf1 ⊢
  have HG : Hid (w.heap.size ≤ g) := by show _ ≤ _; omega
  have hf1 : FS NoB w1 g newF := hf1
  have HG0 := Lib.hid hg
  have HB1 := Lib.hid hb1
  clear hg hb1
  repeat (first | refine kw_seq ?_ | refine kw_region ?_ | refine kl_nil ?_ | refine kq_then ?_ | refine kw_iff rfl ?_ | refine kw_skip ?_ | refine kw_block ?_ | refine kl_ung rfl rfl ?_ | refine kl_skipg rfl rfl rfl rfl ?_ | (first | refine kl_move rfl rfl (.inl rfl) rfl rfl ?_ | refine kl_move rfl rfl (.inr rfl) rfl rfl ?_ | refine kl_const rfl rfl (.inl rfl) rfl ?_ | refine kl_const rfl rfl (.inr rfl) rfl ?_) | ((first | refine kl_step rfl rfl rfl fun K hK => ?_ | refine kl_step0 rfl rfl rfl fun K hK => ?_); go_simp; (try go_bits); (first | refine hK _ _ ?_ | refine hK _ ?_); clear hK K))
  refine kl_call rfl rfl rfl Try.func12 rfl (by kernel_rfl) rfl ?_
  refine Calls.mono (loadK_any NoB g newF w1 hf1) ?_
  rintro e w2 ⟨A2, n2, c2, rfl, hk2, _, _, _, hb2⟩
  refine ⟨_, rfl, ?_⟩
  rw [HN0.out] at hk2 ⊢
  dsimp only at hk2 ⊢
  obtain rfl : n2 = 0 := hk2.len.symm
  have hf2 := hf1.below hb2
  have HB2 := Lib.hid (below_then HB1.out hb2 HB1.out.size)
  clear hf1 hb2 HB1 hk2
  repeat (first | refine kw_seq ?_ | refine kw_region ?_ | refine kl_nil ?_ | refine kq_then ?_ | refine kl_build 29 _ (kepC kx).toArray rfl rfl rfl (by rfl) (by rfl) (kepBuilt3 [120] 4 5) ?_ | refine kl_buildSlice_row (z := kepC kepZ) (cs := kepC kx) Try.underlying26 kepZero kepSize rfl (by omega) (by omega) rfl rfl rfl rfl rfl ?_ | (first | refine kl_move rfl rfl (.inl rfl) rfl rfl ?_ | refine kl_move rfl rfl (.inr rfl) rfl rfl ?_ | refine kl_const rfl rfl (.inl rfl) rfl ?_ | refine kl_const rfl rfl (.inr rfl) rfl ?_) | ((first | refine kl_step rfl rfl rfl fun K hK => ?_ | refine kl_step0 rfl rfl rfl fun K hK => ?_); go_simp; (try go_bits); (first | refine hK _ _ ?_ | refine hK _ ?_); clear hK K))
  have hr3 := rangeAt_new w2 (kepC kx).toArray 29 w2.heap.size rfl
  have hb3 : Below w2.heap.size w2 (w2.alloc (.cells (kepC kx).toArray 29)) := (Below.refl _ _).alloc (Nat.le_refl _) _
  have hf3 := hf2.below hb3
  have HB3 := Lib.hid (below_then HB2.out hb3 HB2.out.size)
  have hk3 : KeS (w2.alloc (.cells (kepC kx).toArray 29)) (some ⟨w2.heap.size, 0, none⟩) 1 [kx] := ⟨rfl, fun _ => ⟨_, _, rfl, fun i p hp => by
    match i, hp with
    | 0, hp => simp at hp; subst hp; exact hr3⟩⟩
  have hglt := hf2.lt
  clear hr3 hf2 HB2 hb3
  generalize w2.alloc (.cells (kepC kx).toArray 29) = w3 at hf3 HB3 hk3 ⊢
  generalize w2.heap.size = g3 at hk3 hglt ⊢
  have HK3 := Lib.hid hk3
  clear hk3
  repeat (first | refine kw_seq ?_ | refine kw_region ?_ | refine kl_nil ?_ | refine kq_then ?_ | refine kw_iff rfl ?_ | refine kw_skip ?_ | refine kw_block ?_ | refine kl_ung rfl rfl ?_ | refine kl_skipg rfl rfl rfl rfl ?_ | (first | refine kl_move rfl rfl (.inl rfl) rfl rfl ?_ | refine kl_move rfl rfl (.inr rfl) rfl rfl ?_ | refine kl_const rfl rfl (.inl rfl) rfl ?_ | refine kl_const rfl rfl (.inr rfl) rfl ?_) | ((first | refine kl_step rfl rfl rfl fun K hK => ?_ | refine kl_step0 rfl rfl rfl fun K hK => ?_); go_simp; (try go_bits); (first | refine hK _ _ ?_ | refine hK _ ?_); clear hK K))
  refine kl_call rfl rfl rfl Try.func11 rfl (by kernel_rfl) rfl ?_
  refine Calls.mono (saveK_any NoB g (noB g) newF (some ⟨g3, 0, none⟩) 1 1 [kx] w3 hf3 HK3.out (CkOk.kv (ck_one 0 (by omega)))) ?_
  rintro e w4 ⟨rfl, hf4, hg4⟩
  refine ⟨_, rfl, ?_⟩
  rw [HS1.out] at hf4 ⊢
  dsimp only at hf4 ⊢
  have HB4 := Lib.hid (below_grown HB3.out hg4 HB3.out.size HG.out)
  clear hg4 hf3 HB3 HK3 hglt
  repeat (first | refine kw_seq ?_ | refine kw_region ?_ | refine kl_nil ?_ | refine kq_then ?_ | refine kw_iff rfl ?_ | refine kw_skip ?_ | refine kw_block ?_ | refine kl_ung rfl rfl ?_ | refine kl_skipg rfl rfl rfl rfl ?_ | (first | refine kl_move rfl rfl (.inl rfl) rfl rfl ?_ | refine kl_move rfl rfl (.inr rfl) rfl rfl ?_ | refine kl_const rfl rfl (.inl rfl) rfl ?_ | refine kl_const rfl rfl (.inr rfl) rfl ?_) | ((first | refine kl_step rfl rfl rfl fun K hK => ?_ | refine kl_step0 rfl rfl rfl fun K hK => ?_); go_simp; (try go_bits); (first | refine hK _ _ ?_ | refine hK _ ?_); clear hK K))
  refine kl_call rfl rfl rfl Try.func12 rfl (by kernel_rfl) rfl ?_
  refine Calls.mono (loadK_any NoB g f1 w4 hf4) ?_
  rintro e w5 ⟨A5, n5, c5, rfl, hk5, _, hc5, _, hb5⟩
  refine ⟨_, rfl, ?_⟩
  rw [HN1.out] at hk5 ⊢
  dsimp only at hk5 ⊢
  obtain rfl : n5 = 1 := hk5.len.symm
  have HB5 := Lib.hid (below_then HB4.out hb5 HB4.out.size)
  obtain ⟨b, o, p, rfl, hra, _, hgt⟩ := hk5.next (k := 0) (by omega)
  obtain rfl : p = kx := by have := hgt.out; simp at this; exact this.symm
  have cx : w5.cell? ⟨b, o + 2, none⟩ = some (.int .i64 5) := by have := hra 2 (.int .i64 5) rfl; simpa using this
  clear hra hgt hk5 hf4 HB4 hb5
  repeat (first | refine kw_seq ?_ | refine kw_block ?_ | refine kw_skip ?_ | refine kw_region ?_ | refine kl_nil ?_ | refine kq_then ?_ | refine kq_block ?_ | refine kw_exit ?_ | refine kq_then_exit ?_ | refine kq_block_here rfl ?_ | refine kq_block_far rfl ?_ | refine kq_again_exit ?_ | refine kw_ret ?_ | refine kq_then_ret ?_ | refine kq_block_ret ?_ | refine kq_again_ret ?_ | refine kw_ift rfl ?_ | refine kw_iff rfl ?_ | refine kl_ung rfl rfl ?_ | refine kl_skipg rfl rfl rfl rfl ?_ | refine kl_skipg0 rfl rfl rfl ?_ | (first | refine kl_move rfl rfl (.inl rfl) rfl rfl ?_ | refine kl_move rfl rfl (.inr rfl) rfl rfl ?_ | refine kl_const rfl rfl (.inl rfl) rfl ?_ | refine kl_const rfl rfl (.inr rfl) rfl ?_) | ((first | refine kl_step rfl rfl rfl fun K hK => ?_ | refine kl_step0 rfl rfl rfl fun K hK => ?_); go_simp; (try go_bits); (first | refine hK _ _ ?_ | refine hK _ ?_); clear hK K))
  exact kq_ret1 rfl rfl ⟨rfl, by rw [← HG0.out]; exact HB5.out⟩
end Go.Proofs.Ytcpifcdndhhmgaa
set_option linter.unusedVariables false
set_option linter.unusedSimpArgs false
namespace Go.Proofs.Ytcpifcdndhhmgaa
open Go.RowKit
def fewK (l : List KepS) : Bool := (l.all fun k => decide (k.path.length ≤ 30)) && decide (l.length ≤ 30)
def goodIt (k : KepS) : KepS := ⟨k.path.take 20, ((1 + within k.kind 6 : Nat) : Int), wrapK ((1 + within k.kind 6 : Nat) : Int) k.value⟩
def goodK (l : List KepS) : List KepS := (l.take 24).map goodIt
theorem i32_bds (n : Int) : -2147483648 ≤ IntKind.i32.wrap n ∧ IntKind.i32.wrap n ≤ 2147483647 := by
  rw [IntWalk.i32_left]; unfold wrap32; omega
end Go.Proofs.Ytcpifcdndhhmgaa
set_option linter.unusedVariables false
set_option linter.unusedSimpArgs false
namespace Go.Proofs.Ytcpifcdndhhmgaa
open Go.RowKit
def vName (i : Nat) : List UInt8 := [118, UInt8.ofNat (97 + i)]
/-- a variable and its rows, made -/
def A0 (nm : List UInt8) (x : TypV) (r : Bool) (zs : List Int) (FA : Option Addr) (fn fc : Nat) (IA : Option Addr) (im : Nat) : SymA := ⟨⟨nm, x, r, zs⟩, FA, fn, fc, IA, im, im⟩
theorem SymsOk.nil : SymsOk [] := ⟨by simp, fun i s h => by simp at h⟩
theorem SymsOk.snoc {l : List SymV} {i : Nat} {s : SymV} (h : SymsOk l) (hl : l.length = i) (hi : i < 10) (hs : SymOk i s) : SymsOk (l ++ [s]) :=
  ⟨by simp; omega, fun j q hj => by
    rcases Nat.lt_trichotomy j i with hlt | rfl | hlt
    · rw [List.getElem?_append_left (by omega)] at hj; exact h.2 j q hj
    · rw [List.getElem?_append_right (by omega), hl, Nat.sub_self] at hj
      simp at hj; subst hj; exact hs
    · have := (List.getElem?_eq_some_iff.1 hj).1
      simp at this; omega⟩
theorem rw_grownR {α : Type} {E : Enc α} {w w' : World} {A : Option Addr} {n : Nat} {l : List α} {row : Option Nat} (h : Rw E w A n l) (hg : w.grownBy w' row) (ha : 0 < n → ∀ a, A = some a → row ≠ some a.block) : Rw E w' A n l :=
  ⟨h.len, fun hn => by
    obtain ⟨b, o, e, hc⟩ := h.at_ hn
    exact ⟨b, o, e, fun i p hp j u hu => hg.cell (hc i p hp j u hu) (fun hh => ha hn ⟨b, o, none⟩ e hh.symm)⟩⟩
theorem vs_grownR {w w' : World} {A : Option Addr} {n : Nat} {l : List Value} {row : Option Nat} (h : Vs w A n l) (hg : w.grownBy w' row) (ha : 0 < n → ∀ a, A = some a → row ≠ some a.block) : Vs w' A n l :=
  ⟨h.1, fun hn => by
    obtain ⟨b, o, e, hc⟩ := h.2 hn
    exact ⟨b, o, e, fun i u hu => hg.cell (hc i u hu) (fun hh => ha hn ⟨b, o, none⟩ e hh.symm)⟩⟩
theorem vs_inQ {w : World} {A : Option Addr} {n : Nat} {l : List Value} (h : Vs w A n l) (hn : 0 < n) : ∀ a, A = some a → a.block < w.heap.size := fun a e => by
  obtain ⟨b, o, e', hc⟩ := h.2 hn
  rw [e'] at e
  injection e with e
  subst e
  have hl : 0 < l.length := by rw [h.1]; exact hn
  exact World.block_lt_of_cell? w _ (hc 0 _ (List.getElem?_eq_getElem hl))
/-- a row lies apart from an own row -/
def Aw (v : Value) (A : Option Addr) (n : Nat) : Prop := 0 < n → ∀ a, A = some a → v.ownBlock ≠ some a.block
/-- the row that is built, its variables -/
structure OutM (w W : World) (v : Value) (i : Nat) (l : List SymA) : Prop where
  bel : Below w.heap.size w W
  own : W.ownsRow w.heap.size 73 7 v i (flatR symE l)
  mem : ∀ a ∈ l, SymM W a ∧ Aw v a.FA a.fn ∧ Aw v a.IA a.im
  ok : SymsOk (l.map (·.s))
  len : l.length = i
theorem OutM.start (w : World) : OutM w w (.slice none 0 0) 0 [] := ⟨Below.refl _ _, World.ownsRow_nil _ _ _ _, fun a h => absurd h (by simp), SymsOk.nil, rfl⟩
theorem OutM.next {w W W' : World} {v : Value} {i : Nat} {l : List SymA} (h : OutM w W v i l) (hb : Below W.heap.size W W') : OutM w W' v i l :=
  ⟨below_then h.bel hb h.bel.size, own_below h.own hb, fun a ha => ⟨(h.mem a ha).1.keep (.of_below hb), (h.mem a ha).2⟩, h.ok, h.len⟩
theorem symM_grownR {w w' : World} {a : SymA} {row : Option Nat} (h : SymM w a) (hg : w.grownBy w' row) (h1 : 0 < a.fn → ∀ p, a.FA = some p → row ≠ some p.block) (h2 : 0 < a.im → ∀ p, a.IA = some p → row ≠ some p.block) : SymM w' a :=
  ⟨⟨rw_grownR h.typ.row hg h1, h.typ.le, h.typ.cap⟩, vs_grownR h.init hg h2, h.le, h.cap⟩
theorem OutM.app {w W W' : World} {v v' : Value} {i ni : Nat} {l : List SymA} {a : SymA} (h : OutM w W v i l) (ho : W'.ownsRow w.heap.size 73 7 v' ni (flatR symE (l ++ [a]))) (hni : i + 1 = ni) (hg : W.grownBy W' v.ownBlock) (hv : v'.ownBlock = v.ownBlock ∨ v'.ownBlock = some W.heap.size)
    (hm : SymM W a) (a1 : Aw v a.FA a.fn) (a2 : Aw v a.IA a.im) (hok : SymOk i a.s) (hi : i < 10) : OutM w W' v' ni (l ++ [a]) := by
  refine ⟨below_appendN h.bel hg h.own h.bel.size, ho, fun b hb => ?_, by rw [List.map_append]; exact h.ok.snoc (by simp [h.len]) hi hok, by simp [h.len, hni]⟩
  have hb' : SymM W b ∧ Aw v b.FA b.fn ∧ Aw v b.IA b.im := by
    rcases List.mem_append.1 hb with hb | hb
    · exact h.mem b hb
    · rw [List.mem_singleton.1 hb]; exact ⟨hm, a1, a2⟩
  obtain ⟨k1, k2, k3⟩ := hb'
  refine ⟨symM_grownR k1 hg k2 k3, fun hn p hp => ?_, fun hn p hp => ?_⟩
  · rcases hv with e | e
    · rw [e]; exact k2 hn p hp
    · have h1 : p.block < W.heap.size := k1.typ.row.inQ hn p hp
      rw [e]; intro e2; injection e2 with e2; omega
  · rcases hv with e | e
    · rw [e]; exact k3 hn p hp
    · have h1 := vs_inQ k1.init hn p hp
      rw [e]; intro e2; injection e2 with e2; omega
/-- the variable that a round builds -/
structure SvM (w4 W : World) (g7 : Nat) (a : SymA) : Prop where
  lay : Lay w4 W [(g7, (symC a).toArray, 73)]
  typ : TypM W a.s.typ a.FA a.fn a.fc
  aw : 0 < a.fn → ∀ p, a.FA = some p → p.block ≠ g7
  far : ∀ p, a.FA = some p → w4.heap.size ≤ p.block
  ok : TypOk a.s.typ
theorem SvM.next {w4 W W' : World} {g7 : Nat} {a : SymA} (h : SvM w4 W g7 a) (hb : Below W.heap.size W W') : SvM w4 W' g7 a := ⟨h.lay.next hb, h.typ.keep (.of_below hb), h.aw, h.far, h.ok⟩
theorem SvM.set {w4 W : World} {g7 : Nat} {a a' : SymA} (h : SvM w4 W g7 a) (j : Nat) (u : Value) (hc : (symC a).set j u = symC a') (h1 : a'.s.typ = a.s.typ) (h2 : a'.FA = a.FA) (h3 : a'.fn = a.fn) (h4 : a'.fc = a.fc) : SvM w4 (W.setCell ⟨g7, j, none⟩ u) g7 a' := by
  have hl := h.lay.cell 0 rfl j u
  rw [hc] at hl
  refine ⟨hl, ?_, by rw [h2, h3]; exact h.aw, by rw [h2]; exact h.far, by rw [h1]; exact h.ok⟩
  rw [h1, h2, h3, h4]
  exact ⟨rw_grownR h.typ.row (grown_set W g7 j u) (fun hn p hp e => by injection e with e; exact h.aw hn p hp e.symm), h.typ.le, h.typ.cap⟩
theorem SvM.range {w4 W : World} {g7 : Nat} {a : SymA} (h : SvM w4 W g7 a) : W.rangeAt g7 0 (symC a) := fun j u hu => by rw [Nat.zero_add]; exact h.lay.get 0 rfl hu
theorem symUnder : ∃ fs, Try.prog.underlying 73 = some (.struct fs) ∧ fs.toList.mapM (fun f => (Try.prog.info? f.type).map fun i => (f.offset, i.size)) = some [(0, 1), (1, 4), (5, 1), (6, 1)] := ⟨_, Try.underlying73, by kernel_rfl⟩
end Go.Proofs.Ytcpifcdndhhmgaa
set_option linter.unusedVariables false
set_option linter.unusedSimpArgs false
namespace Go.Proofs.Ytcpifcdndhhmgaa
open Go.RowKit
section
variable {P : Program} {Q : Exit → Act → World → Prop} {n : Nat} {L : Slots} {w : World}
end
section
variable {P : Program} {Q : Exit → Act → World → Prop} {m n : Nat} {L : Slots} {w : World}
theorem kq_yield2 {l l2 : List Oper} {y : Oper} {k lp d t x x2 : Nat} {v v2 : Value} {ts : Array TypeId} (hl : l.drop k = y :: l2) (hQ : ¬ LetsOut Q) (hd : y.dst = some d) (hg : y.guard = none) (ho : y.op = .call { callee := .value (.tmp t), args := #[.tmp x, .tmp x2], argTypes := ts })
    (ht : lk L t = some (.func (.yield lp) #[] #[])) (hx : lk L x = some v) (hx2 : lk L x2 = some v2) (hn : Nat.blt d n = true)
    (h : YieldAt Fence.wide (m - 1) P lp #[v, v2] w fun e w' => ∃ b, e = .returned (.bool b) ∧ KL P l.toArray Q l2 n ((d, .bool b) :: L) w') : KQ (Exit.then (fun a w => wpListIn Fence.wide m P l.toArray Q (l.drop k) a w) Q) .normal n L w := ⟨fun a ka => by
  show wpListIn Fence.wide m P l.toArray Q (l.drop k) a w
  rw [hl]
  refine BigFrame.wpListIn_want (by simp [Region.wanted, hg]) fun K hK => ⟨fun _ _ => trivial, ?_⟩
  obtain ⟨fn, tmps, assign, body, hy, hR⟩ := h
  have he : (execOp a.eval y).run P w = .ok (.round lp fn tmps assign body) w := by
    have h1 : a.eval (.tmp t) = .func (.yield lp) #[] #[] := ka.ev ht
    have h2 : a.eval (.tmp x) = v := ka.ev hx
    have h3 : a.eval (.tmp x2) = v2 := ka.ev hx2
    obtain ⟨dst, op, type, pos, after, guard⟩ := y
    subst ho
    simp only [execOp, resolve, h1, List.map_toArray, List.map_cons, List.map_nil, h2, h3]
    simpa [Deferred.ofValue, invoke, go_sem] using hy
  show y.uponIn Fence.wide m P a K Q ((execOp a.eval y).run P w)
  rw [he]
  refine ⟨fun h => by simp [Fence.wide] at h, hR.mono ?_⟩
  rintro e w' ⟨b, rfl, hb⟩
  exact hK _ _ (list_inW hQ _ _ _ (kl_back ka hd hn hb))⟩
end
end Go.Proofs.Ytcpifcdndhhmgaa
