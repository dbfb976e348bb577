/- The sparse walk's laws for arrays by value: laid, loaded, stored, built. No program in sight. -/
import Derived.Test.YtblidiecahpekaaKn
import Derived.Test.YtblidiecahpekaaArr
set_option linter.unusedVariables false
set_option linter.unusedSimpArgs false
namespace Go.Proofs.Ytblidiecahpekaa
open Go.RowKit
section
variable {P : Program} {Q : Exit → Act → World → Prop} {n : Nat} {L : Slots} {w : World} {ops : Array Oper} {rest : List Oper} {o : Oper}
theorem kl_alloc_row {d : Nat} (t : TypeId) {cs : Array Value} (hz : (P.info? t).bind (·.zero) = some (.agg cs)) (hd : o.dst = some d) (hg : o.guard = none) (ho : o.op = .alloc t) (hn : Nat.blt d n = true)
    (h : KL P ops Q rest n ((d, .pointer (some ⟨w.heap.size, 0, none⟩)) :: L) (w.alloc (.cells cs t))) : KL P ops Q (o :: rest) n L w :=
  ⟨fun a k => wpList_alloc_row hg t ho hz (kl_back k hd hn h)⟩
theorem kl_load_row {d x : Nat} (ty : TypeId) (g : Nat) (t : TypeId) (cs : Array Value) (fr : Nat × Nat) (de : TypeDesc) (hg' : w.heap[g]? = some (.cells cs t fr)) (hu : P.underlying ty = some de) (hde : (match de with | .struct _ | .array _ _ => true | _ => false) = true) (hi : (P.info? ty).map (·.size) = some cs.size)
    (hd : o.dst = some d) (hg : o.guard = none) (ho : o.op = .load ty (.tmp x)) (hx : lk L x = some (.pointer (some ⟨g, 0, none⟩))) (hn : Nat.blt d n = true)
    (h : KL P ops Q rest n ((d, .agg cs) :: L) w) : KL P ops Q (o :: rest) n L w :=
  ⟨fun a k => wpList_load_row hg ty (.tmp x) ho g (k.ev hx) t cs fr de hg' hu hde hi (kl_back k hd hn h)⟩
theorem kl_store_row {x y : Nat} (ty : TypeId) (g : Nat) (cells : Array Value) (t : TypeId) (old : Array Value) (hg' : w.heap[g]? = some (.cells old t (0, 0))) (hi : (P.info? ty).map (·.size) = some cells.size) (hs : old.size = cells.size) (hwv : cells.all (·.oneCell') = true)
    (hd : o.dst = none) (hg : o.guard = none) (ho : o.op = .store ty (.tmp x) (.tmp y)) (hx : lk L x = some (.pointer (some ⟨g, 0, none⟩))) (hy : lk L y = some (.agg cells))
    (h : KL P ops Q rest n L (w.setRow g cells)) : KL P ops Q (o :: rest) n L w :=
  ⟨fun a k => wpList_store_row hg ty (.tmp x) (.tmp y) ho g cells (k.ev hx) (k.ev hy) t old hg' hi hs hwv (kl_back0 k hd h)⟩
theorem kl_build {d : Nat} (t : TypeId) (parts : Array (Nat × Operand)) (cells : Array Value) (hd : o.dst = some d) (hg : o.guard = none) (ho : o.op = .build t parts) (hok : (parts.toList.all fun p => okx L p.2) = true) (hn : Nat.blt d n = true)
    (hb : P.built t (parts.toList.map fun p => (p.1, ev L p.2)) = some cells)
    (h : KL P ops Q rest n ((d, .agg cells) :: L) w) : KL P ops Q (o :: rest) n L w :=
  ⟨fun a k => wpList_buildTo hg t parts ho cells (by rw [map_eval2 k parts hok, Array.toList_map]; exact hb) (kl_back k hd hn h)⟩
end
end Go.Proofs.Ytblidiecahpekaa
