/- Rows that the laws save, plainly. -/
import Derived.Test.YtcpifcdndhhmgaaRetKnown
set_option linter.unusedVariables false
set_option linter.unusedSimpArgs false
namespace Go.Proofs.Ytcpifcdndhhmgaa
open Go.RowKit
theorem xor_i64 (a b : Int) : I64 (bits .xor .i64 a b) := by
  unfold bits
  simp only [IntWalk.i64_left]
  unfold I64 wrap64
  omega
def pth (j : Nat) : List UInt8 := [112, UInt8.ofNat (97 + j)]
def itA (v : Int) (i j : Nat) : KepS := ⟨pth j, 6, bits .xor .i64 (bits .xor .i64 v (i : Int)) (j : Int)⟩
def itT (j : Nat) : KepS := ⟨pth j, 5, (j : Int)⟩
def rowOf (it : Nat → KepS) (c : Nat) : List KepS := (List.range c).map it
theorem rowOf_len (it : Nat → KepS) (c : Nat) : (rowOf it c).length = c := by simp [rowOf]
theorem rowOf_next (it : Nat → KepS) (c : Nat) : rowOf it (c + 1) = rowOf it c ++ [it c] := by simp [rowOf, List.range_succ]
theorem rowOf_ok (it : Nat → KepS) (c n : Nat) (hc : c ≤ 24) (hn : n < 1000) (h : ∀ j, j < c → KepOk (it j)) : CkOk ((n + 1 : Nat) : Int) (rowOf it c) :=
  ⟨by omega, by rw [rowOf_len]; exact hc, fun k hk => by
    obtain ⟨j, hj, rfl⟩ := List.mem_map.1 hk
    exact h j (List.mem_range.1 hj)⟩
theorem itA_ok (v : Int) (i j : Nat) : KepOk (itA v i j) := ⟨by show 2 ≤ 65535; omega, xor_i64 _ _, by show mayK ⟨pth j, 6, _⟩ = true; simp [mayK, wrapK]⟩
theorem rowOf_bytes (it : Nat → KepS) (c : Nat) (q : Int) (hc : c ≤ 24) (h : ∀ j, (it j).path.length = 2) : (bytesK q (rowOf it c)).length ≤ 1018 := by
  rw [length_bytesK]
  have h1 := length_kepsB (rowOf it c) 2 (fun k hk => by
    obtain ⟨j, hj, rfl⟩ := List.mem_map.1 hk
    rw [h j]; omega) (by omega)
  rw [rowOf_len] at h1
  omega
theorem u8_97 (s j : Nat) (h : 97 + j = s) (hj : j < 24) : (s : Int) = ((UInt8.ofNat (97 + j)).toNat : Int) := by
  rw [UInt8.toNat_ofNat']; omega
structure AInv (i : Nat) (f : FlashSt) : Prop where
  live : Live f
  kep : ∃ l, KepI f i l
theorem again_start : AInv 0 newF := ⟨live_new, [], kepI_new⟩
theorem AInv.step {i : Nat} {f : FlashSt} (h : AInv i f) (hi : i < 100) (k : List KepS) (hk : CkOk ((i + 1 : Nat) : Int) k) (hb : (bytesK ((i + 1 : Nat) : Int) k).length ≤ 1018) : ∃ f', saveK f k = (0, f') ∧ AInv (i + 1) f' ∧ ∃ s : Int, newK f' = (((i + 1 : Nat) : Int), k, s) := by
  obtain ⟨L, l, K⟩ := h
  obtain ⟨f', h1, h2, h3, _⟩ := K.save L (by omega) k hk hb
  obtain ⟨s, _, h4⟩ := h3.new
  exact ⟨f', h1, ⟨h2, k, h3⟩, s, h4⟩
/-- a row of one's own beside a memory -/
structure RowM (w W : World) (g B : Nat) (f : FlashSt) (v : Value) (n : Nat) (l : List KepS) : Prop where
  fs : FS NoB W g f
  own : W.ownsRow B 29 3 v n (flatK l)
  gB : g < B
  BW : B ≤ W.heap.size
  ge : w.heap.size ≤ g
  bel : Below w.heap.size w W
section
variable {w W W' : World} {g B n : Nat} {f f' : FlashSt} {v v' : Value} {l : List KepS}
theorem RowM.below (h : RowM w W g B f v n l) (hb : Below W.heap.size W W') : RowM w W' g B f v n l := ⟨h.fs.below hb, own_below h.own hb, h.gB, Nat.le_trans h.BW hb.size, h.ge, below_then h.bel hb h.bel.size⟩
theorem RowM.ne (h : RowM w W g B f v n l) : v.ownBlock = none ∨ v.ownBlock ≠ some g := by
  cases hv : v.ownBlock with
  | none => exact .inl rfl
  | some b => have := (h.own.lt b hv).1; have := h.gB; exact .inr (fun hh => by injection hh with hh; omega)
theorem RowM.mem (h : RowM w W g B f v n l) (hF : FS NoB W' g f') (hg : W.grownBy W' (some g)) : RowM w W' g B f' v n l := ⟨hF, h.own.kept hg h.ne, h.gB, Nat.le_trans h.BW hg.size, h.ge, below_grown h.bel hg h.bel.size h.ge⟩
theorem RowM.app (h : RowM w W g B f v n l) {m : Nat} {k : List KepS} (ho : W'.ownsRow B 29 3 v' m (flatK k)) (hg : W.grownBy W' v.ownBlock) : RowM w W' g B f v' m k := by
  have hb : ∃ b, g < b ∧ W.grownBy W' (some b) := by
    cases hv : v.ownBlock with
    | none => rw [hv] at hg; exact ⟨B, h.gB, grownNone hg _⟩
    | some b => rw [hv] at hg; have := (h.own.lt b hv).1; have := h.gB; exact ⟨b, by omega, hg⟩
  obtain ⟨b, hgb, hg⟩ := hb
  exact ⟨h.fs.other hg (by omega) (fun _ h => h.elim), ho, h.gB, Nat.le_trans h.BW hg.size, h.ge, below_grown h.bel hg h.bel.size (by have := h.ge; omega)⟩
theorem RowM.away (h : RowM w W g B f v n l) (hl : l.length = n) : ∃ A c, v = .slice A n c ∧ KeS W A n l := by
  obtain ⟨A, c, hv, h1, _⟩ := own_kes h.own hl
  exact ⟨A, c, hv, h1⟩
end
attribute [local go_sem] ev_tmp ev_const ev_func ev_global lk_hit lk_miss uponK_value uponK_skip look_tmp look_const look_global look_func valP_value
set_option maxRecDepth 100000 in
set_option maxHeartbeats 1000000 in
theorem saveMany_any (V : Value) (A : Option Addr) (n c : Nat) (w : World) (h24 : 24 < n) : Calls Try.prog 11 #[V, .slice A n c] w fun e w' => e = .returned (.int .i64 4) ∧ w = w' := by
  refine calls_kw Try.func11 rfl Try.ntmps11 rfl [(0, V), (1, .slice A n c)] rfl ?_
  have t1 : decide ((24 : Int) < (n : Int)) = true := by rw [decide_eq_true_eq]; omega
  have t1n : decide (24 < n) = true := decide_eq_true h24
  clear h24
  repeat (first | refine kw_seq ?_ | refine kw_block ?_ | refine kw_skip ?_ | refine kw_region ?_ | refine kl_nil ?_ | refine kq_then ?_ | refine kq_block ?_ | refine kw_exit ?_ | refine kq_then_exit ?_ | refine kq_block_here rfl ?_ | refine kq_block_far rfl ?_ | refine kq_again_exit ?_ | refine kw_ret ?_ | refine kq_then_ret ?_ | refine kq_block_ret ?_ | refine kq_again_ret ?_ | refine kw_ift rfl ?_ | refine kw_iff rfl ?_ | refine kl_ung rfl rfl ?_ | refine kl_skipg rfl rfl rfl rfl ?_ | refine kl_skipg0 rfl rfl rfl ?_ | (first | refine kl_move rfl rfl (.inl rfl) rfl rfl ?_ | refine kl_move rfl rfl (.inr rfl) rfl rfl ?_ | refine kl_const rfl rfl (.inl rfl) rfl ?_ | refine kl_const rfl rfl (.inr rfl) rfl ?_) | ((first | refine kl_step rfl rfl rfl fun K hK => ?_ | refine kl_step0 rfl rfl rfl fun K hK => ?_); go_simp; (try go_bits); (first | refine hK _ _ ?_ | refine hK _ ?_); clear hK K))
  exact kq_ret1 rfl rfl ⟨rfl, rfl⟩
set_option maxRecDepth 100000 in
theorem makeKept (W : World) : ∃ W', (Instr.makeSlice 26 (.int .i64 25) (.int .i64 25)).run Try.prog W = .ok (.slice (some ⟨W.heap.size, 0, none⟩) 25 25) W' ∧ Below W.heap.size W W' := by
  obtain ⟨i0, hi0, hz0, hz1, hz2⟩ := info_parts kepInfo3
  have hr := run_make (P := Try.prog) W 26 29 i0 (.agg (kepC kepZ).toArray) Try.underlying26 hi0 hz0 .i64 .i64 25 25 (by omega) (by omega) (by rw [hz2]; omega) (by omega)
  exact ⟨_, hr, (Below.refl _ _).alloc (Nat.le_refl _) _⟩
end Go.Proofs.Ytcpifcdndhhmgaa
