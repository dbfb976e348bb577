/- The sparse walk's laws for append at bytes. -/
import Derived.Test.YtblidiecahpekaaKn
import Derived.Test.YtblidiecahpekaaAppendB
set_option linter.unusedVariables false
set_option linter.unusedSimpArgs false
namespace Go.Proofs.Ytblidiecahpekaa
open Go.RowKit
section
variable {Q : Exit → Act → World → Prop} {N : Nat} {L : Slots} {w : World} {ops : Array Oper} {rest : List Oper} {o : Oper}
theorem kl_append {d x y : Nat} (base : Nat) (v : Value) (n : Nat) (l : List UInt8) (hown : w.ownsRow base 5 1 v n (bv l)) (A : Option Addr) (m c : Nat) (k : List UInt8) (hr : Bs w A m k) (hb : n + m ≤ 70368744177664) (hbase : base ≤ w.heap.size)
    (hd : o.dst = some d) (hg : o.guard = none) (ho : o.op = .call { callee := .builtin .append, args := #[.tmp x, .tmp y], argTypes := #[32, 32] })
    (hs : lk L x = some v) (hx : lk L y = some (.slice A m c)) (hn : Nat.blt d N = true)
    (h : ∀ v' w', w'.ownsRow base 5 1 v' (n + m) (bv (l ++ k)) → w.grownBy w' v.ownBlock → (v'.ownBlock = v.ownBlock ∨ v'.ownBlock = some w.heap.size) → KL Try.prog ops Q rest N ((d, v') :: L) w') : KL Try.prog ops Q (o :: rest) N L w :=
  ⟨fun a ka => appendB w hg (.tmp x) (.tmp y) ho base v n l (ka.ev hs) hown A m c k (ka.ev hx) hr hb hbase fun v' w' h1 h2 h3 => kl_back ka hd hn (h v' w' h1 h2 h3)⟩
theorem kl_clone {d x y : Nat} (B : Nat) (hB : B = w.heap.size) (A : Option Addr) (m c : Nat) (k : List UInt8) (hr : Bs w A m k) (hb : m ≤ 70368744177664)
    (hd : o.dst = some d) (hg : o.guard = none) (ho : o.op = .call { callee := .builtin .append, args := #[.tmp x, .tmp y], argTypes := #[32, 32] })
    (hs : lk L x = some (.slice (some ⟨B, 0, none⟩) 0 0)) (hx : lk L y = some (.slice A m c)) (hn : Nat.blt d N = true)
    (h : ∀ v' w', w'.ownsRow w.heap.size 5 1 v' m (bv k) → Below w.heap.size w w' → KL Try.prog ops Q rest N ((d, v') :: L) w') : KL Try.prog ops Q (o :: rest) N L (w.alloc (.cells #[] 5)) :=
  ⟨fun a ka => cloneB w hg (.tmp x) (.tmp y) ho B hB (ka.ev hs) A m c k (ka.ev hx) hr hb fun v' w' h1 h2 => kl_back ka hd hn (h v' w' h1 h2)⟩
end
end Go.Proofs.Ytblidiecahpekaa
