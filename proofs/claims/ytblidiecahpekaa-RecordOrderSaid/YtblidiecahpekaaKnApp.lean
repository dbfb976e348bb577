/- append and conversion at bytes; make. The sparse walk's laws for append at bytes. -/
import Derived.Test.YtblidiecahpekaaChecked
import Derived.Test.YtblidiecahpekaaLib
import Derived.Lib.AppendZerosOnto
import Derived.Lib.SliceRun
import Derived.Test.YtblidiecahpekaaKn
set_option linter.unusedVariables false
set_option linter.unusedSimpArgs false
namespace Go.Proofs.Ytblidiecahpekaa
open Go.RowKit

theorem byteInfo : (Try.prog.info? 5).map (fun i => (i.zero, i.size, i.bytes)) = some (some (.int .u8 0), 1, 1) := by kernel_rfl

/-- append onto bytes of the call's own -/
theorem appendB (w : World) {ops : Array Oper} {rest : List Oper} {o : Oper} {a : Act} {Q : Exit → Act → World → Prop} (hgd : o.guard = none) (s x : Operand)
    (ho : o.op = .call { callee := .builtin .append, args := #[s, x], argTypes := #[32, 32] })
    (base : Nat) (v : Value) (n : Nat) (l : List UInt8) (hs : a.eval s = v) (hown : w.ownsRow base 5 1 v n (bv l))
    (A : Option Addr) (m c : Nat) (k : List UInt8) (hx : a.eval x = .slice A m c) (hr : Bs w A m k) (hb : n + m ≤ 70368744177664) (hbase : base ≤ w.heap.size)
    (h : ∀ v' w', w'.ownsRow base 5 1 v' (n + m) (bv (l ++ k)) → w.grownBy w' v.ownBlock → (v'.ownBlock = v.ownBlock ∨ v'.ownBlock = some w.heap.size) → wpList Try.prog ops Q rest (a.put o.dst v') w') : wpList Try.prog ops Q (o :: rest) a w := by
  obtain ⟨i0, hi0, hz0, hz1, hz2⟩ := info_parts byteInfo
  refine wpList_append_V w hgd s x 32 ho base 5 i0 (.int .u8 0) 1 Try.underlying32 hi0 hz0 hz1 hz2 rfl v n (bv l) hs hown A m c (bv k) hx hr (bv_one k) (by omega) (by simp only [maxLen]; omega) hbase ?_
  intro v' w' h1 h2 h3
  rw [← bv_append] at h1
  exact h v' w' h1 h2 h3
/-- append([]byte{}, k...) -/
theorem cloneB (w : World) {ops : Array Oper} {rest : List Oper} {o : Oper} {a : Act} {Q : Exit → Act → World → Prop} (hgd : o.guard = none) (s x : Operand)
    (ho : o.op = .call { callee := .builtin .append, args := #[s, x], argTypes := #[32, 32] })
    (B : Nat) (hB : B = w.heap.size) (hs : a.eval s = .slice (some ⟨B, 0, none⟩) 0 0)
    (A : Option Addr) (m c : Nat) (k : List UInt8) (hx : a.eval x = .slice A m c) (hr : Bs w A m k) (hb : m ≤ 70368744177664)
    (h : ∀ v' w', w'.ownsRow w.heap.size 5 1 v' m (bv k) → Below w.heap.size w w' → wpList Try.prog ops Q rest (a.put o.dst v') w') : wpList Try.prog ops Q (o :: rest) a (w.alloc (.cells #[] 5)) := by
  subst hB
  refine appendB _ hgd s x ho w.heap.size (.slice (some ⟨w.heap.size, 0, none⟩) 0 0) 0 [] hs (World.ownsRow_made w #[] 0 (Nat.le_refl _) (by simp [maxLen]) rfl) A m c k hx (hr.alloc _) (by omega) (by simp) ?_
  intro v' w' h1 h2 h3
  rw [Nat.zero_add] at h1
  exact h v' w' h1 (((Below.refl _ w).alloc (Nat.le_refl _) _).grown h2 (by simp) (by simp [Value.ownBlock]))
/-- string(b) -/
theorem convB {w : World} {A : Option Addr} {n c : Nat} {l : List UInt8} (h : Bs w A n l) :
    (convert 32 9 (.slice A n c)).run Try.prog w = .ok (.string ⟨l.toArray⟩) w := by
  rw [run_convert_bytes_string (P := Try.prog) w 32 9 5 A n c Try.underlying32 Try.underlying5 Try.underlying9]
  rcases A with _ | ad
  · have h0 : n = 0 := by
      rcases Nat.eq_zero_or_pos n with h' | h'
      · exact h'
      · obtain ⟨_, _, h', _⟩ := h.2 h'; cases h'
    subst h0
    have hl : l = [] := List.eq_nil_of_length_eq_zero h.len
    subst hl
    rfl
  · have hlen := h.len
    have hload : (loadCells ad n).run Try.prog w = .ok ((l.map fun u => (u.toNat : Int)).map (Value.int .u8)).toArray w := by
      rcases Nat.eq_zero_or_pos n with h' | h'
      · subst h'
        have hl : l = [] := List.eq_nil_of_length_eq_zero hlen
        subst hl
        rfl
      · obtain ⟨b, o, e, hc⟩ := h.2 h'
        injection e with e; subst e
        have := run_loadCells_list (P := Try.prog) w ⟨b, o, none⟩ (bv l) (fun j u hu => by rw [Addr.add_lit]; exact hc j u hu)
        rw [length_bv, hlen] at this
        rw [this]
        simp [bv]
    rw [run_bytesToString w ad n c _ hload, foldl_push_bytes]
    simp only [List.map_map]
    have : (fun n : Int => UInt8.ofNat n.toNat) ∘ (fun u : UInt8 => (u.toNat : Int)) = id := by funext u; simp
    rw [this, List.map_id]
    have : (ByteArray.empty).data ++ l.toArray = l.toArray := by
      show #[] ++ l.toArray = l.toArray
      simp
    rw [this]

set_option maxRecDepth 100000 in
/-- make([]byte, n) -/
theorem makeBytes (n : Nat) (hn : n ≤ 140737488355328) (W : World) :
    (Instr.makeSlice 32 (.int .i64 (n : Int)) (.int .i64 (n : Int))).run Try.prog W = .ok (.slice (some ⟨W.heap.size, 0, none⟩) n n) (W.alloc (.cells (bv (List.replicate n 0)).toArray 5)) := by
  obtain ⟨i0, hi0, hz0, hz1, hz2⟩ := info_parts byteInfo
  have hr := run_make (P := Try.prog) W 32 5 i0 (.int .u8 0) Try.underlying32 hi0 hz0 .i64 .i64 n n (by omega) (by omega) (by rw [hz2]; omega) (by omega)
  simp only [Int.toNat_natCast, hz1, Nat.mul_one, Value.cells] at hr
  rw [hr]
  congr 3
  apply Array.toList_inj.1
  rw [toList_madeCells_one]
  simp [bv]
end Go.Proofs.Ytblidiecahpekaa
set_option linter.unusedVariables false
set_option linter.unusedSimpArgs false
namespace Go.Proofs.Ytblidiecahpekaa
open Go.RowKit
section
variable {Q : Exit → Act → World → Prop} {N : Nat} {L : Slots} {w : World} {ops : Array Oper} {rest : List Oper} {o : Oper}
theorem kl_append {d x y : Nat} (base : Nat) (v : Value) (n : Nat) (l : List UInt8) (hown : w.ownsRow base 5 1 v n (bv l)) (A : Option Addr) (m c : Nat) (k : List UInt8) (hr : Bs w A m k) (hb : n + m ≤ 70368744177664) (hbase : base ≤ w.heap.size)
    (hd : o.dst = some d) (hg : o.guard = none) (ho : o.op = .call { callee := .builtin .append, args := #[.tmp x, .tmp y], argTypes := #[32, 32] })
    (hs : lk L x = some v) (hx : lk L y = some (.slice A m c)) (hn : Nat.blt d N = true)
    (h : ∀ v' w', w'.ownsRow base 5 1 v' (n + m) (bv (l ++ k)) → w.grownBy w' v.ownBlock → (v'.ownBlock = v.ownBlock ∨ v'.ownBlock = some w.heap.size) → KL Try.prog ops Q rest N ((d, v') :: L) w') : KL Try.prog ops Q (o :: rest) N L w :=
  ⟨fun a ka => appendB w hg (.tmp x) (.tmp y) ho base v n l (ka.ev hs) hown A m c k (ka.ev hx) hr hb hbase fun v' w' h1 h2 h3 => kl_back ka hd hn (h v' w' h1 h2 h3)⟩
theorem kl_clone {d x y : Nat} (B : Nat) (hB : B = w.heap.size) (A : Option Addr) (m c : Nat) (k : List UInt8) (hr : Bs w A m k) (hb : m ≤ 70368744177664)
    (hd : o.dst = some d) (hg : o.guard = none) (ho : o.op = .call { callee := .builtin .append, args := #[.tmp x, .tmp y], argTypes := #[32, 32] })
    (hs : lk L x = some (.slice (some ⟨B, 0, none⟩) 0 0)) (hx : lk L y = some (.slice A m c)) (hn : Nat.blt d N = true)
    (h : ∀ v' w', w'.ownsRow w.heap.size 5 1 v' m (bv k) → Below w.heap.size w w' → KL Try.prog ops Q rest N ((d, v') :: L) w') : KL Try.prog ops Q (o :: rest) N L (w.alloc (.cells #[] 5)) :=
  ⟨fun a ka => cloneB w hg (.tmp x) (.tmp y) ho B hB (ka.ev hs) A m c k (ka.ev hx) hr hb fun v' w' h1 h2 => kl_back ka hd hn (h v' w' h1 h2)⟩
end
end Go.Proofs.Ytblidiecahpekaa
