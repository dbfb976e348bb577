/- The sparse walk's laws for arrays by value: laid, loaded, stored, built. No program in sight. append and conversion at bytes; make. The sparse walk's laws for append at bytes. -/
import Derived.Test.YtonjpjiphcbemaaKn
import Derived.Test.YtonjpjiphcbemaaArr
import Derived.Test.YtonjpjiphcbemaaChecked
import Derived.Test.YtonjpjiphcbemaaLib
import Derived.Lib.AppendZerosOnto
import Derived.Lib.SliceRun
namespace Go.Proofs.Ytonjpjiphcbemaa
open Go.RowKit
section
variable {P : Program} {Q : Exit → Act → World → Prop} {n : Nat} {L : Slots} {w : World} {ops : Array Oper} {rest : List Oper} {o : Oper}
theorem kl_alloc_row {d : Nat} (t : TypeId) {cs : Array Value} (hz : (P.info? t).bind (·.zero) = some (.agg cs)) (hd : o.dst = some d) (hg : o.guard = none) (ho : o.op = .alloc t) (hn : Nat.blt d n = true)
    (h : KL P ops Q rest n ((d, .pointer (some ⟨w.heap.size, 0, none⟩)) :: L) (w.alloc (.cells cs t))) : KL P ops Q (o :: rest) n L w :=
  ⟨fun a k => wpList_alloc_row hg t ho hz (kl_back k hd hn h)⟩
theorem kl_load_row {d x : Nat} (ty : TypeId) (g : Nat) (t : TypeId) (cs : Array Value) (fr : Nat × Nat) (de : TypeDesc) (hg' : w.heap[g]? = some (.cells cs t fr)) (hu : P.underlying ty = some de) (hde : (match de with | .struct _ | .array _ _ => true | _ => false) = true) (hi : (P.info? ty).map (·.size) = some cs.size)
    (hd : o.dst = some d) (hg : o.guard = none) (ho : o.op = .load ty (.tmp x)) (hx : lk L x = some (.pointer (some ⟨g, 0, none⟩))) (hn : Nat.blt d n = true)
    (h : KL P ops Q rest n ((d, .agg cs) :: L) w) : KL P ops Q (o :: rest) n L w :=
  ⟨fun a k => wpList_load_row hg ty (.tmp x) ho g (k.ev hx) t cs fr de hg' hu hde hi (kl_back k hd hn h)⟩
theorem kl_store_row {x y : Nat} (ty : TypeId) (g : Nat) (cells : Array Value) (t : TypeId) (old : Array Value) (hg' : w.heap[g]? = some (.cells old t (0, 0))) (hi : (P.info? ty).map (·.size) = some cells.size) (hs : old.size = cells.size) (hwv : cells.all (·.oneCell') = true)
    (hd : o.dst = none) (hg : o.guard = none) (ho : o.op = .store ty (.tmp x) (.tmp y)) (hx : lk L x = some (.pointer (some ⟨g, 0, none⟩))) (hy : lk L y = some (.agg cells))
    (h : KL P ops Q rest n L (w.setRow g cells)) : KL P ops Q (o :: rest) n L w :=
  ⟨fun a k => wpList_store_row hg ty (.tmp x) (.tmp y) ho g cells (k.ev hx) (k.ev hy) t old hg' hi hs hwv (kl_back0 k hd h)⟩
theorem kl_build {d : Nat} (t : TypeId) (parts : Array (Nat × Operand)) (cells : Array Value) (hd : o.dst = some d) (hg : o.guard = none) (ho : o.op = .build t parts) (hok : (parts.toList.all fun p => okx L p.2) = true) (hn : Nat.blt d n = true)
    (hb : P.built t (parts.toList.map fun p => (p.1, ev L p.2)) = some cells)
    (h : KL P ops Q rest n ((d, .agg cells) :: L) w) : KL P ops Q (o :: rest) n L w :=
  ⟨fun a k => wpList_buildTo hg t parts ho cells (by rw [map_eval2 k parts hok, Array.toList_map]; exact hb) (kl_back k hd hn h)⟩
end
end Go.Proofs.Ytonjpjiphcbemaa
namespace Go.Proofs.Ytonjpjiphcbemaa
open Go.RowKit

theorem byteInfo : (Try.prog.info? 5).map (fun i => (i.zero, i.size, i.bytes)) = some (some (.int .u8 0), 1, 1) := by kernel_rfl

/-- append onto bytes of the call's own -/
theorem appendB (w : World) {ops : Array Oper} {rest : List Oper} {o : Oper} {a : Act} {Q : Exit → Act → World → Prop} (hgd : o.guard = none) (s x : Operand)
    (ho : o.op = .call { callee := .builtin .append, args := #[s, x], argTypes := #[22, 22] })
    (base : Nat) (v : Value) (n : Nat) (l : List UInt8) (hs : a.eval s = v) (hown : w.ownsRow base 5 1 v n (bv l))
    (A : Option Addr) (m c : Nat) (k : List UInt8) (hx : a.eval x = .slice A m c) (hr : Bs w A m k) (hb : n + m ≤ 70368744177664) (hbase : base ≤ w.heap.size)
    (h : ∀ v' w', w'.ownsRow base 5 1 v' (n + m) (bv (l ++ k)) → w.grownBy w' v.ownBlock → (v'.ownBlock = v.ownBlock ∨ v'.ownBlock = some w.heap.size) → wpList Try.prog ops Q rest (a.put o.dst v') w') : wpList Try.prog ops Q (o :: rest) a w := by
  obtain ⟨i0, hi0, hz0, hz1, hz2⟩ := info_parts byteInfo
  refine wpList_append_V w hgd s x 22 ho base 5 i0 (.int .u8 0) 1 Try.underlying22 hi0 hz0 hz1 hz2 rfl v n (bv l) hs hown A m c (bv k) hx hr (bv_one k) (by omega) (by simp only [maxLen]; omega) hbase ?_
  intro v' w' h1 h2 h3
  rw [← bv_append] at h1
  exact h v' w' h1 h2 h3
/-- append([]byte{}, k...) -/
theorem cloneB (w : World) {ops : Array Oper} {rest : List Oper} {o : Oper} {a : Act} {Q : Exit → Act → World → Prop} (hgd : o.guard = none) (s x : Operand)
    (ho : o.op = .call { callee := .builtin .append, args := #[s, x], argTypes := #[22, 22] })
    (B : Nat) (hB : B = w.heap.size) (hs : a.eval s = .slice (some ⟨B, 0, none⟩) 0 0)
    (A : Option Addr) (m c : Nat) (k : List UInt8) (hx : a.eval x = .slice A m c) (hr : Bs w A m k) (hb : m ≤ 70368744177664)
    (h : ∀ v' w', w'.ownsRow w.heap.size 5 1 v' m (bv k) → Below w.heap.size w w' → wpList Try.prog ops Q rest (a.put o.dst v') w') : wpList Try.prog ops Q (o :: rest) a (w.alloc (.cells #[] 5)) := by
  subst hB
  refine appendB _ hgd s x ho w.heap.size (.slice (some ⟨w.heap.size, 0, none⟩) 0 0) 0 [] hs (World.ownsRow_made w #[] 0 (Nat.le_refl _) (by simp [maxLen]) rfl) A m c k hx (hr.alloc _) (by omega) (by simp) ?_
  intro v' w' h1 h2 h3
  rw [Nat.zero_add] at h1
  exact h v' w' h1 (((Below.refl _ w).alloc (Nat.le_refl _) _).grown h2 (by simp) (by simp [Value.ownBlock]))
/-- string(b) -/
theorem convB {w : World} {A : Option Addr} {n c : Nat} {l : List UInt8} (h : Bs w A n l) :
    (convert 22 9 (.slice A n c)).run Try.prog w = .ok (.string ⟨l.toArray⟩) w := by
  rw [run_convert_bytes_string (P := Try.prog) w 22 9 5 A n c Try.underlying22 Try.underlying5 Try.underlying9]
  rcases A with _ | ad
  · have h0 : n = 0 := by
      rcases Nat.eq_zero_or_pos n with h' | h'
      · exact h'
      · obtain ⟨_, _, h', _⟩ := h.2 h'; cases h'
    subst h0
    have hl : l = [] := List.eq_nil_of_length_eq_zero h.len
    subst hl
    rfl
  · have hlen := h.len
    have hload : (loadCells ad n).run Try.prog w = .ok ((l.map fun u => (u.toNat : Int)).map (Value.int .u8)).toArray w := by
      rcases Nat.eq_zero_or_pos n with h' | h'
      · subst h'
        have hl : l = [] := List.eq_nil_of_length_eq_zero hlen
        subst hl
        rfl
      · obtain ⟨b, o, e, hc⟩ := h.2 h'
        injection e with e; subst e
        have := run_loadCells_list (P := Try.prog) w ⟨b, o, none⟩ (bv l) (fun j u hu => by rw [Addr.add_lit]; exact hc j u hu)
        rw [length_bv, hlen] at this
        rw [this]
        simp [bv]
    rw [run_bytesToString w ad n c _ hload, foldl_push_bytes]
    simp only [List.map_map]
    have : (fun n : Int => UInt8.ofNat n.toNat) ∘ (fun u : UInt8 => (u.toNat : Int)) = id := by funext u; simp
    rw [this, List.map_id]
    have : (ByteArray.empty).data ++ l.toArray = l.toArray := by
      show #[] ++ l.toArray = l.toArray
      simp
    rw [this]

set_option maxRecDepth 100000 in
/-- make([]byte, n) -/
theorem makeBytes (n : Nat) (hn : n ≤ 140737488355328) (W : World) :
    (Instr.makeSlice 22 (.int .i64 (n : Int)) (.int .i64 (n : Int))).run Try.prog W = .ok (.slice (some ⟨W.heap.size, 0, none⟩) n n) (W.alloc (.cells (bv (List.replicate n 0)).toArray 5)) := by
  obtain ⟨i0, hi0, hz0, hz1, hz2⟩ := info_parts byteInfo
  have hr := run_make (P := Try.prog) W 22 5 i0 (.int .u8 0) Try.underlying22 hi0 hz0 .i64 .i64 n n (by omega) (by omega) (by rw [hz2]; omega) (by omega)
  simp only [Int.toNat_natCast, hz1, Nat.mul_one, Value.cells] at hr
  rw [hr]
  congr 3
  apply Array.toList_inj.1
  rw [toList_madeCells_one]
  simp [bv]
end Go.Proofs.Ytonjpjiphcbemaa
namespace Go.Proofs.Ytonjpjiphcbemaa
open Go.RowKit
section
variable {Q : Exit → Act → World → Prop} {N : Nat} {L : Slots} {w : World} {ops : Array Oper} {rest : List Oper} {o : Oper}
theorem kl_append {d x y : Nat} (base : Nat) (v : Value) (n : Nat) (l : List UInt8) (hown : w.ownsRow base 5 1 v n (bv l)) (A : Option Addr) (m c : Nat) (k : List UInt8) (hr : Bs w A m k) (hb : n + m ≤ 70368744177664) (hbase : base ≤ w.heap.size)
    (hd : o.dst = some d) (hg : o.guard = none) (ho : o.op = .call { callee := .builtin .append, args := #[.tmp x, .tmp y], argTypes := #[22, 22] })
    (hs : lk L x = some v) (hx : lk L y = some (.slice A m c)) (hn : Nat.blt d N = true)
    (h : ∀ v' w', w'.ownsRow base 5 1 v' (n + m) (bv (l ++ k)) → w.grownBy w' v.ownBlock → (v'.ownBlock = v.ownBlock ∨ v'.ownBlock = some w.heap.size) → KL Try.prog ops Q rest N ((d, v') :: L) w') : KL Try.prog ops Q (o :: rest) N L w :=
  ⟨fun a ka => appendB w hg (.tmp x) (.tmp y) ho base v n l (ka.ev hs) hown A m c k (ka.ev hx) hr hb hbase fun v' w' h1 h2 h3 => kl_back ka hd hn (h v' w' h1 h2 h3)⟩
theorem kl_clone {d x y : Nat} (B : Nat) (hB : B = w.heap.size) (A : Option Addr) (m c : Nat) (k : List UInt8) (hr : Bs w A m k) (hb : m ≤ 70368744177664)
    (hd : o.dst = some d) (hg : o.guard = none) (ho : o.op = .call { callee := .builtin .append, args := #[.tmp x, .tmp y], argTypes := #[22, 22] })
    (hs : lk L x = some (.slice (some ⟨B, 0, none⟩) 0 0)) (hx : lk L y = some (.slice A m c)) (hn : Nat.blt d N = true)
    (h : ∀ v' w', w'.ownsRow w.heap.size 5 1 v' m (bv k) → Below w.heap.size w w' → KL Try.prog ops Q rest N ((d, v') :: L) w') : KL Try.prog ops Q (o :: rest) N L (w.alloc (.cells #[] 5)) :=
  ⟨fun a ka => cloneB w hg (.tmp x) (.tmp y) ho B hB (ka.ev hs) A m c k (ka.ev hx) hr hb fun v' w' h1 h2 => kl_back ka hd hn (h v' w' h1 h2)⟩
end
end Go.Proofs.Ytonjpjiphcbemaa
