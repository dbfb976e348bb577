/- law3: known, within. -/
import Derived.Test.YtkjfejkikejnhaaShaDig
import Derived.Lib.SlBytesConst
namespace Go.Proofs.Ytkjfejkikejnhaa
open Go.RowKit

set_option maxRecDepth 100000 in
theorem abc_head : (hexOf (sha [97, 98, 99])).take 8 = [98, 97, 55, 56, 49, 54, 98, 102] := by decide +kernel
theorem extract_list (S : List UInt8) (k : Nat) : ((⟨S.toArray⟩ : ByteArray).extract 0 k).toList = S.take k := by
  rw [ByteArray.toList_eq]
  simp
set_option maxRecDepth 100000 in
set_option maxHeartbeats 1000000 in
theorem known_any (w : World) : Calls Try.prog 8 #[] w fun e w' => e = .returned (.bool true) ∧ Below w.heap.size w w' := by
  have h1 := Lib.hid abc_head
  have h2 : (hexOf (sha [97, 98, 99])).length = 64 := by rw [length_hexOf, length_sha]
  have H2 := Lib.hid h2
  have HL := Lib.hid (length_sha [97, 98, 99])
  clear h2
  have kc := fun (W : World) (C : Array Value) (n c : Nat) => Lib.run_convert_bytes_const (P := Try.prog) W 26 5 C n c Try.underlying26 Try.underlying5
  have kc2 : ∀ (W : World) (o : Obj) (C : Array Value) (n c : Nat), (convert 26 26 (.slice (some ⟨W.heap.size + 1, 0, none⟩) n c)).run Try.prog ((W.alloc o).alloc (.cells C 5)) = .ok (.slice (some ⟨W.heap.size + 1, 0, none⟩) n c) ((W.alloc o).alloc (.cells C 5 (C.size, C.size + 1))) := by
    intro W o C n c
    have h := Lib.run_convert_bytes_const (P := Try.prog) (W.alloc o) 26 5 C n c Try.underlying26 Try.underlying5
    rw [show (W.alloc o).heap.size = W.heap.size + 1 by simp] at h
    exact h
  go_enter Try.func8, Try.ntmps8
  go_wp2_with fail
  refine Calls.mono (shaSum_any _ 2 2 [[97], [98, 99]] _ (Ps.lit2 26 (by simp) ((Bs.litF 5 rfl [97] rfl rfl).alloc _) (by omega) (by omega) (Bs.litF 5 (by simp) [98, 99] rfl rfl) (by omega) (by omega)) (by omega) (by simp)) ?_
  rintro e w2 ⟨rfl, hb2⟩
  clear kc kc2
  rw [show ([[97], [98, 99]] : List (List UInt8)).flatten = [97, 98, 99] from rfl]
  have hb := below_then ((((Below.refl _ w).alloc (Nat.le_refl _) (.cells #[.int .u8 97] 5 (1, 2))).alloc (by simp) (.cells #[.int .u8 98, .int .u8 99] 5 (2, 3))).alloc (by simp; omega) _) hb2 (by simp; omega)
  go_wp2_with fail
  refine Calls.mono (shaHex_any _ HL.out _) ?_
  rintro e w3 ⟨rfl, hb3⟩
  obtain ⟨S, hS⟩ : ∃ S, hexOf (sha [97, 98, 99]) = S := ⟨_, rfl⟩
  rw [hS] at h1 H2 ⊢
  have hS64 := H2.out
  have hx : ((⟨S.toArray⟩ : ByteArray).extract 0 8).toList = [98, 97, 55, 56, 49, 54, 98, 102] := by rw [extract_list, h1.out]
  go_wp2_with fail
  go_ret
  exact ⟨rfl, below_then hb hb3 hb.size⟩
end Go.Proofs.Ytkjfejkikejnhaa
