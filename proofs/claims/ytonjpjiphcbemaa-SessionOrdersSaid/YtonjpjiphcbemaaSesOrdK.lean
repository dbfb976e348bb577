/- SessionOrders: pieces of the walk. -/
import Derived.Test.YtonjpjiphcbemaaSesOrdP
namespace Go.Proofs.Ytonjpjiphcbemaa
open Go.RowKit
theorem SlB.far {w : World} {l : List UInt8} {v : Value} (h : SlB w l v) {p : Addr} (hp : ∀ b o n c, v = .slice (some ⟨b, o, none⟩) n c → b ≠ p.block) (u : Value) : SlB (w.setCell p u) l v := by
  obtain ⟨A, n, c, rfl, hb, r⟩ := h
  exact ⟨A, n, c, rfl, Vs.far hb (fun b o e => hp b o n c (by rw [e])) u, r⟩
theorem SlO.far {w : World} {l : List Bool} {v : Value} (h : SlO w l v) {p : Addr} (hp : ∀ b o n c, v = .slice (some ⟨b, o, none⟩) n c → b ≠ p.block) (u : Value) : SlO (w.setCell p u) l v := by
  obtain ⟨A, n, c, rfl, hb, r⟩ := h
  exact ⟨A, n, c, rfl, Vs.far hb (fun b o e => hp b o n c (by rw [e])) u, r⟩
/-- neither slice lies in block g -/
def Apart (g : Nat) (D G : Value) : Prop := (∀ b o n c, D = .slice (some ⟨b, o, none⟩) n c → b ≠ g) ∧ (∀ b o n c, G = .slice (some ⟨b, o, none⟩) n c → b ≠ g)
theorem SesM.far {w : World} {s : Ses} {D G : Value} (h : SesM w s D G) {g j : Nat} (ha : Apart g D G) (u : Value) : SesM (w.setCell ⟨g, j, none⟩ u) s D G := ⟨h.id, h.size, h.sum, h.data.far ha.1 u, h.got.far ha.2 u⟩
theorem SesM.farRow {w : World} {s : Ses} {D G : Value} (h : SesM w s D G) {g : Nat} (ha : Apart g D G) (cs : Array Value) : SesM (w.setRow g cs) s D G := ⟨h.id, h.size, h.sum, h.data.row ha.1 _, h.got.row ha.2 _⟩
theorem Lay.pop {w0 w : World} {p : Nat × Array Value × TypeId} {V : Vars} (h : Lay w0 w (p :: V)) : Lay w0 w V := ⟨h.below, h.vars.2.2.2⟩
theorem bls_set (G : List Bool) (k : Nat) (x : Bool) : (bls G).set k (.bool x) = bls (G.set k x) := by simp [bls, List.map_set]
theorem bls_at {G : List Bool} {k : Nat} {x : Bool} (h : G[k]? = some x) : (bls G)[k]? = some (.bool x) := by rw [bls, List.getElem?_map, h]; rfl
/-- append([]byte{}, k...), k not empty: an operation alone -/
theorem run_clone0 {W : World} {o : Oper} {ρ : Operand → Value} {x y : Tmp} {g m c : Nat} {A : Option Addr} {k : List UInt8} (ho : o.op = .call { callee := .builtin .append, args := #[.tmp x, .tmp y], argTypes := #[22, 22] })
    (hx : ρ (.tmp x) = .slice (some ⟨g, 0, none⟩) 0 0) (hy : ρ (.tmp y) = .slice A m c) (hr : Bs W A m k) (h0 : 0 < m) (hm : m ≤ 70368744177664) :
    ∃ v W', (execOp ρ o).run Try.prog W = .ok (.value v) W' ∧ W'.ownsRow W.heap.size 5 1 v m (bv k) ∧ Below W.heap.size W W' := by
  obtain ⟨i0, hi0, hz0, hz1, hz2⟩ := info_parts byteInfo
  obtain ⟨b, of, rfl, hc⟩ := hr.2 h0
  obtain ⟨v, W', hrun, hown, hgr⟩ := run_append_arg_grows (P := Try.prog) W 22 o.type 5 i0 (.int .u8 0) 1 1 Try.underlying22 hi0 hz0 hz1 hz2 rfl (by omega) ⟨g, 0, none⟩ 0 0 [] rfl (by intro j u hu; simp at hu) ⟨b, of, none⟩ m c (bv k) (by rw [hr.1, Nat.mul_one]) (fun j u hu => by rw [Addr.add_lit]; exact hc j u hu) (by omega) (by simp only [maxLen]; omega) (by omega)
  refine ⟨v, W', ?_, by simpa using hown, (Below.refl _ _).grown hgr (Nat.le_refl _) (by simp)⟩
  unfold execOp
  simp only [ho, resolve, invoke, builtin, Sem.run_bind, Sem.run_pure, Result.andThen_ok, List.map_toArray, List.map_cons, List.map_nil, hx, hy, hrun]
end Go.Proofs.Ytonjpjiphcbemaa
