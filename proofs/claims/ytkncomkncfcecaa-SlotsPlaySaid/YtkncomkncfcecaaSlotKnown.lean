/- A number from 0 to n - 1: plainly. within of the law's package. No block at all. Slots: the chapter's example. -/
import Derived.Test.YtkncomkncfcecaaLib
import Derived.Test.YtkncomkncfcecaaChecked
import Derived.Test.YtkncomkncfcecaaSlotL
import Derived.Test.YtkncomkncfcecaaSlotBytes
set_option linter.unusedVariables false
set_option linter.unusedSimpArgs false
namespace Go.Proofs.Ytkncomkncfcecaa
open Go.RowKit
theorem emod_neg_ (x n : Int) (h : x.tmod n < 0) (h0 : 0 < n) : x.tmod n + n = x % n := by
  have := Int.tmod_eq_emod (a := x) (b := n)
  have hb := Int.emod_lt_of_pos x h0
  have hc := Int.emod_nonneg x (Int.ne_of_gt h0)
  split at this <;> omega
theorem emod_pos_ (x n : Int) (h : 0 ≤ x.tmod n) (h0 : 0 < n) : x.tmod n = x % n := by
  have := Int.tmod_eq_emod (a := x) (b := n)
  have hb := Int.emod_lt_of_pos x h0
  have hc := Int.emod_nonneg x (Int.ne_of_gt h0)
  split at this <;> omega
def within (x : Int) (n : Nat) : Nat := (x % (n : Int)).toNat
theorem YV (x : Int) (n : Nat) (h : 0 < n) : within x n < n := by
  have := Int.emod_lt_of_pos x (show (0 : Int) < n by omega)
  have := Int.emod_nonneg x (show (n : Int) ≠ 0 by omega)
  unfold within; omega
end Go.Proofs.Ytkncomkncfcecaa
set_option linter.unusedVariables false
set_option linter.unusedSimpArgs false
namespace Go.Proofs.Ytkncomkncfcecaa
open Go.RowKit
theorem Xk (x : Int) (n : Nat) (N : Int) (w : World) (hN : N = n) (h0 : 0 < n) (hn : n ≤ 4294967296) :
    Calls Try.prog 11 #[.int .i64 x, .int .i64 N] w fun e w' => e = .returned (.int .i64 (within x n : Int)) ∧ w = w' := by
  subst hN
  have h0' : (0 : Int) < n := by omega
  have h1 : x.tmod n < n := Int.tmod_lt_of_pos x h0'
  have h2 : -(n : Int) < x.tmod n := by
    have := Int.tmod_eq_emod (a := x) (b := n)
    have hc := Int.emod_nonneg x (Int.ne_of_gt h0')
    split at this <;> omega
  have hm := Int.emod_nonneg x (Int.ne_of_gt h0')
  have hW : ((within x n : Nat) : Int) = x % n := by unfold within; omega
  clear hm
  rw [hW]
  clear hW
  go_enter Try.func11, Try.ntmps11
  go_wp2
  · go_ret
    exact ⟨Wb (emod_neg_ x n (by assumption) h0'), rfl⟩
  · go_ret
    exact ⟨Wb (emod_pos_ x n (by omega) h0'), rfl⟩
end Go.Proofs.Ytkncomkncfcecaa
set_option linter.unusedVariables false
set_option linter.unusedSimpArgs false
namespace Go.Proofs.Ytkncomkncfcecaa
def NoB : Nat → Prop := fun _ => False
theorem noB (g : Nat) : ∀ b, NoB b → b ≠ g := fun _ h => h.elim
end Go.Proofs.Ytkncomkncfcecaa
set_option linter.unusedVariables false
set_option linter.unusedSimpArgs false
namespace Go.Proofs.Ytkncomkncfcecaa
open Go.RowKit
attribute [local go_sem] Y1 Yl Yp ZT Yy Yo ZI ZO Yi ZN ZH ZU Ya
def hashB (u : UInt8) : List UInt8 := u :: List.replicate 31 0
theorem Xe (u : UInt8) : (hashB u).length = 32 := rfl
theorem hashBuilt1 (x : Int) : Try.prog.built 29 [(0, .int .u8 x)] = some (.int .u8 x :: bv (List.replicate 31 0)).toArray := by kernel_rfl
theorem hashBuiltB (u : UInt8) (x : Int) (h : x = (u.toNat : Int)) : Try.prog.built 29 [(0, .int .u8 x)] = some (bv (hashB u)).toArray := by subst h; exact hashBuilt1 _
theorem boot_new : bootP newF = (entF, []) := marks_new.boot
theorem row_seq {w : World} {g : Nat} {e : EntS} {t : TypeId} (h : w.heap[g]? = some (.cells (entC e).toArray t (0, 0))) : w.cell? ⟨g, 0, none⟩ = some (.int .i64 e.seq) := Z4 h rfl
theorem row_slot {w : World} {g : Nat} {e : EntS} {t : TypeId} (h : w.heap[g]? = some (.cells (entC e).toArray t (0, 0))) : w.cell? ⟨g, 1, none⟩ = some (.int .i64 e.slot) := Z4 h rfl
theorem row_sum {w : World} {g : Nat} {e : EntS} {t : TypeId} (h : w.heap[g]? = some (.cells (entC e).toArray t (0, 0))) : w.rangeAt g 2 (bv e.sum) := fun j u hu => by
  rw [show (2 : Nat) + j = j + 2 by omega]
  exact Z4 h (by rw [List.getElem?_toArray, Nat.add_comm, ent_sum]; exact hu)
theorem Lay.grown {w0 w w' : World} {V : Vars} {g : Nat} (h : Lay w0 w V) (hg : w.grownBy w' (some g)) (hB : w0.heap.size ≤ g) (hne : ∀ p ∈ V, p.1 ≠ g) : Lay w0 w' V :=
  ⟨Xl h.below hg h.below.size hB, h.vars.grown hg hne⟩
theorem boot_away {Q : Nat → Prop} {W : World} {g n : Nat} {f : FlashSt} {A : Option Addr} {l : List UInt8} (h : FS Q W g f) (hB : Bs W A n l) (hT : TyB W A) : 0 < n → Away g A := fun hn a e hg => by
  obtain ⟨b, o, e', _⟩ := hB.2 hn
  obtain ⟨cs, hc⟩ := hT b o e'
  obtain ⟨_, _, _, hf, _⟩ := h
  rw [e'] at e
  injection e with e
  subst e
  dsimp only at hg
  rw [hg, hf] at hc
  injection hc with hc
  injection hc with _ ht _
  exact absurd ht (by decide)
theorem mark_first (slot : Int) (hsl : 0 ≤ slot ∧ slot ≤ 2) (sum : List UInt8) (h : sum.length = 32) : ∃ f1, markP newF slot sum = (0, f1) ∧ Live f1 ∧ Marks f1 1 [⟨1, slot, sum⟩] := by
  obtain ⟨f1, t, h1, h2, h3, _, _⟩ := marks_new.mark live_new (by omega) slot hsl sum h
  exact ⟨f1, h1, h2, by simpa using h3⟩
set_option maxRecDepth 100000 in
set_option maxHeartbeats 2000000 in
theorem known6_any (w : World) : Calls Try.prog 10 #[] w fun e w' => e = .returned (.bool true) ∧ Below w.heap.size w w' := by
  obtain ⟨f1, hm1, hl1, hM1⟩ := mark_first 2 (by omega) (hashB 1) (Xe 1)
  have HBE0 := Lib.hid boot_new
  have hb1 : bootP f1 = (⟨1, 2, hashB 1⟩, []) := by
    rw [hM1.boot]
    have := bootL_last f1 [] ⟨1, 2, hashB 1⟩ (by rw [image_two _ _ rfl])
    rw [List.nil_append] at this
    rw [this, image_two _ _ rfl]
  have HBE1 := Lib.hid hb1
  have HM := Lib.hid hm1
  clear hm1 hl1 hM1 hb1
  refine ZZ (args := []) Try.func10 rfl Try.ntmps10 rfl [] rfl ?_
  repeat (first | refine Zv ?_ | refine Zc ?_ | refine Zq ?_ | refine Zm ?_ | refine Zx rfl ?_ | refine Zu ?_ | refine Zs ?_ | refine Zz rfl rfl ?_ | refine Zt rfl rfl rfl rfl ?_ | (first | refine Zb rfl rfl (.inl rfl) rfl rfl ?_ | refine Zb rfl rfl (.inr rfl) rfl rfl ?_ | refine Za rfl rfl (.inl rfl) rfl ?_ | refine Za rfl rfl (.inr rfl) rfl ?_) | ((first | refine Zn rfl rfl rfl fun K hK => ?_ | refine Zh rfl rfl rfl fun K hK => ?_); go_simp; (try go_bits); (first | refine hK _ _ ?_ | refine hK _ ?_); clear hK K))
  refine Z9 rfl rfl rfl Try.func12 rfl (by kernel_rfl) rfl ?_
  refine Calls.mono (new_any w) ?_
  rintro e w1 ⟨rfl, hf1, hb1⟩
  refine ⟨_, rfl, ?_⟩
  obtain ⟨g, hg⟩ : ∃ g, w.heap.size = g := ⟨_, rfl⟩
  have hL1 : Lay w w1 [] := (Lay.start w).next hb1
  rw [hg] at hf1 ⊢
  have HG0 := Lib.hid hg
  have HG : Hid (w.heap.size ≤ g) := by show _ ≤ _; omega
  have hf1 : FS NoB w1 g newF := hf1
  clear hg hb1
  repeat (first | refine Zv ?_ | refine Zc ?_ | refine Zq ?_ | refine Zm ?_ | refine Zx rfl ?_ | refine Zu ?_ | refine Zs ?_ | refine Zz rfl rfl ?_ | refine Zt rfl rfl rfl rfl ?_ | (first | refine Zb rfl rfl (.inl rfl) rfl rfl ?_ | refine Zb rfl rfl (.inr rfl) rfl rfl ?_ | refine Za rfl rfl (.inl rfl) rfl ?_ | refine Za rfl rfl (.inr rfl) rfl ?_) | ((first | refine Zn rfl rfl rfl fun K hK => ?_ | refine Zh rfl rfl rfl fun K hK => ?_); go_simp; (try go_bits); (first | refine hK _ _ ?_ | refine hK _ ?_); clear hK K))
  refine Z9 rfl rfl rfl Try.func14 rfl (by kernel_rfl) rfl ?_
  refine Calls.mono (boot_any NoB g newF w1 hf1) ?_
  rintro e wb2 ⟨A2, n2, c2, rfl, hB2, hT2, hn2, hc2, hb2⟩
  refine ⟨_, rfl, ?_⟩
  rw [HBE0.out] at hB2 ⊢
  dsimp only at hB2 ⊢
  have hf2 := hf1.below hb2
  have hL2 := hL1.next hb2
  have hNB2 := hB2.len
  have HAW2 := Lib.hid (boot_away hf2 hB2 hT2)
  clear hT2
  clear hb2
  repeat (first | (first | refine Zb rfl rfl (.inl rfl) rfl rfl ?_ | refine Zb rfl rfl (.inr rfl) rfl rfl ?_ | refine Za rfl rfl (.inl rfl) rfl ?_ | refine Za rfl rfl (.inr rfl) rfl ?_) | ((first | refine Zn rfl rfl rfl fun K hK => ?_ | refine Zh rfl rfl rfl fun K hK => ?_); go_simp; (try go_bits); (first | refine hK _ _ ?_ | refine hK _ ?_); clear hK K))
  refine XH (z := (entC entZ).toArray) (cells := (entC entF).toArray) hL2 entZero (entInfo entF ZL) (by rw [List.size_toArray, List.size_toArray, ZR entZ ZL, ZR entF ZL]) (Yu entF) rfl rfl rfl rfl rfl rfl rfl rfl rfl ?_
  intro ge2 wv2 hge2 hbv2 hL2'
  have hf2' := hf2.below hbv2
  have hB2' := hB2.keep (.of_below hbv2)
  have HNE2 : Hid (ge2 ≠ g) := by show _ ≠ _; have := hf2.lt; omega
  clear hge2 hbv2 hf2 hL2 hB2
  obtain rfl : n2 = 0 := by simpa using hNB2.symm
  clear hf1 hL1 hNB2 hn2 hc2 hB2'
  repeat (first | refine Zv ?_ | refine Zc ?_ | refine Zq ?_ | refine Zm ?_ | refine Zx rfl ?_ | refine Zu ?_ | refine Zs ?_ | refine Zz rfl rfl ?_ | refine Zt rfl rfl rfl rfl ?_ | refine Yr 29 _ (bv (hashB 1)).toArray rfl rfl rfl (by rfl) (by rfl) (hashBuiltB 1 1 rfl) ?_ | (first | refine Zb rfl rfl (.inl rfl) rfl rfl ?_ | refine Zb rfl rfl (.inr rfl) rfl rfl ?_ | refine Za rfl rfl (.inl rfl) rfl ?_ | refine Za rfl rfl (.inr rfl) rfl ?_) | ((first | refine Zn rfl rfl rfl fun K hK => ?_ | refine Zh rfl rfl rfl fun K hK => ?_); go_simp; (try go_bits); (first | refine hK _ _ ?_ | refine hK _ ?_); clear hK K))
  refine Z9 rfl rfl rfl Try.func13 rfl (by kernel_rfl) rfl ?_
  refine Calls.mono (mark_any NoB g (noB g) newF 2 (hashB 1) wv2 hf2' (Xe 1) (by unfold I64; omega)) ?_
  rintro e w3 ⟨rfl, hf3, hg3⟩
  refine ⟨_, rfl, ?_⟩
  rw [HM.out] at hf3 ⊢
  dsimp only at hf3 ⊢
  have hL3 := hL2'.grown hg3 HG.out (fun p hp => by simp at hp; subst hp; exact HNE2.out)
  clear hg3 hf2' hL2'
  repeat (first | refine Zv ?_ | refine Zc ?_ | refine Zq ?_ | refine Zm ?_ | refine Zx rfl ?_ | refine Zu ?_ | refine Zs ?_ | refine Zz rfl rfl ?_ | refine Zt rfl rfl rfl rfl ?_ | (first | refine Zb rfl rfl (.inl rfl) rfl rfl ?_ | refine Zb rfl rfl (.inr rfl) rfl rfl ?_ | refine Za rfl rfl (.inl rfl) rfl ?_ | refine Za rfl rfl (.inr rfl) rfl ?_) | ((first | refine Zn rfl rfl rfl fun K hK => ?_ | refine Zh rfl rfl rfl fun K hK => ?_); go_simp; (try go_bits); (first | refine hK _ _ ?_ | refine hK _ ?_); clear hK K))
  refine Z9 rfl rfl rfl Try.func14 rfl (by kernel_rfl) rfl ?_
  refine Calls.mono (boot_any NoB g f1 w3 hf3) ?_
  rintro e wb4 ⟨A4, n4, c4, rfl, hB4, hT4, hn4, hc4, hb4⟩
  refine ⟨_, rfl, ?_⟩
  rw [HBE1.out] at hB4 ⊢
  dsimp only at hB4 ⊢
  have hf4 := hf3.below hb4
  have hL4 := hL3.next hb4
  have hNB4 := hB4.len
  have HAW4 := Lib.hid (boot_away hf4 hB4 hT4)
  clear hT4
  clear hb4
  repeat (first | (first | refine Zb rfl rfl (.inl rfl) rfl rfl ?_ | refine Zb rfl rfl (.inr rfl) rfl rfl ?_ | refine Za rfl rfl (.inl rfl) rfl ?_ | refine Za rfl rfl (.inr rfl) rfl ?_) | ((first | refine Zn rfl rfl rfl fun K hK => ?_ | refine Zh rfl rfl rfl fun K hK => ?_); go_simp; (try go_bits); (first | refine hK _ _ ?_ | refine hK _ ?_); clear hK K))
  refine XH (z := (entC entZ).toArray) (cells := (entC ⟨1, 2, hashB 1⟩).toArray) hL4 entZero (entInfo ⟨1, 2, hashB 1⟩ (Xe 1)) (by rw [List.size_toArray, List.size_toArray, ZR entZ ZL, ZR ⟨1, 2, hashB 1⟩ (Xe 1)]) (Yu ⟨1, 2, hashB 1⟩) rfl rfl rfl rfl rfl rfl rfl rfl rfl ?_
  intro ge4 wv4 hge4 hbv4 hL4'
  have hf4' := hf4.below hbv4
  have hB4' := hB4.keep (.of_below hbv4)
  have HNE4 : Hid (ge4 ≠ g) := by show _ ≠ _; have := hf4.lt; omega
  clear hge4 hbv4 hf4 hL4 hB4
  have q1 := row_slot (hL4'.at_ 1 rfl)
  have q2 := row_seq (hL4'.at_ 1 rfl)
  have q3 := row_seq (hL4'.at_ 0 rfl)
  have q4 := row_sum (hL4'.at_ 0 rfl)
  dsimp only [entF] at q1 q2 q3 q4
  have he : ∀ W, (Op.equalIn 10000 29 (.agg (bv (hashB 1)).toArray) (.agg (bv (hashB 1)).toArray)).run Try.prog W = .ok true W := fun W => by rw [eqH W _ _ (Xe 1) (Xe 1), beq_self_eq_true]
  have HL4 := Lib.hid hL4'
  clear hL4' hL3 hf3
  repeat (first | refine Zv ?_ | refine Zc ?_ | refine Zq ?_ | refine Zm ?_ | refine Zx rfl ?_ | refine Zu ?_ | refine Zs ?_ | refine Zz rfl rfl ?_ | refine Zt rfl rfl rfl rfl ?_ | refine Y8 29 ge4 2 _ _ q4 Try.underlying29 rfl (hashSize _ (Xe 1)) rfl rfl rfl rfl rfl ?_ | refine Yr 29 _ (bv (hashB 1)).toArray rfl rfl rfl (by rfl) (by rfl) (hashBuiltB 1 1 rfl) ?_ | (first | refine Zb rfl rfl (.inl rfl) rfl rfl ?_ | refine Zb rfl rfl (.inr rfl) rfl rfl ?_ | refine Za rfl rfl (.inl rfl) rfl ?_ | refine Za rfl rfl (.inr rfl) rfl ?_) | ((first | refine Zn rfl rfl rfl fun K hK => ?_ | refine Zh rfl rfl rfl fun K hK => ?_); go_simp; (try go_bits); (first | refine hK _ _ ?_ | refine hK _ ?_); clear hK K))
  repeat (first | refine Zv ?_ | refine Zs ?_ | refine Zu ?_ | refine Zc ?_ | refine Zq ?_ | refine Zm ?_ | refine Zp ?_ | refine Zw ?_ | refine Zf ?_ | refine Zd rfl ?_ | refine Zj rfl ?_ | refine Ze ?_ | refine Z3 ?_ | refine Zk ?_ | refine Zg ?_ | refine Zi ?_ | refine Zy rfl ?_ | refine Zx rfl ?_ | refine Zz rfl rfl ?_ | refine Zt rfl rfl rfl rfl ?_ | refine Zr rfl rfl rfl ?_ | (first | refine Zb rfl rfl (.inl rfl) rfl rfl ?_ | refine Zb rfl rfl (.inr rfl) rfl rfl ?_ | refine Za rfl rfl (.inl rfl) rfl ?_ | refine Za rfl rfl (.inr rfl) rfl ?_) | ((first | refine Zn rfl rfl rfl fun K hK => ?_ | refine Zh rfl rfl rfl fun K hK => ?_); go_simp; (try go_bits); (first | refine hK _ _ ?_ | refine hK _ ?_); clear hK K))
  exact ZE rfl rfl ⟨rfl, by rw [← HG0.out]; exact HL4.out.below⟩
end Go.Proofs.Ytkncomkncfcecaa
