/- An elder program's values, a newer program's cells. Kept rows are appended, nil or not. -/
import Derived.Test.YtcpifcdndhhmgaaTakSyms
import Derived.Test.YtcpifcdndhhmgaaKnR
import Derived.Test.YtcpifcdndhhmgaaTakTake
import Derived.Test.YtcpifcdndhhmgaaFill
import Derived.Laws.AppendOwnNone
set_option linter.unusedVariables false
set_option linter.unusedSimpArgs false
namespace Go.Proofs.Ytcpifcdndhhmgaa
open Go.RowKit
def symVs (nb : Nat) (r0 : Bool) (k3 z3 : Int) : List SymV :=
  [⟨[110], ⟨5, 0, 0, []⟩, r0, [0]⟩, ⟨[98], ⟨1, 0, 0, []⟩, false, [1]⟩, ⟨[119], ⟨3, 0, 0, []⟩, false, [5]⟩, ⟨[105], ⟨k3, 0, 0, []⟩, true, [z3]⟩, ⟨[97], ⟨7, 5, nb, []⟩, false, List.replicate nb 0⟩, ⟨[116], ⟨9, 0, 0, []⟩, false, [0, 50, 0, 0, 0, 0]⟩, ⟨[99], ⟨10, 0, 0, []⟩, false, [0, 0, 3, 0, 0, 0]⟩]
theorem symL_vs (nb : Nat) (r0 : Bool) (k3 z3 : Int) (g0 g1 g2 g3 g4 g5 g6 : Nat) : (symL nb r0 k3 z3 g0 g1 g2 g3 g4 g5 g6).map (·.s) = symVs nb r0 k3 z3 := rfl
def oldC : List CellV := [⟨[110], 5, true, 0, 0, 0⟩, ⟨[98], 1, false, 1, 0, 0⟩, ⟨[119], 3, false, 5, 0, 0⟩, ⟨[105], 4, true, -3, 0, 0⟩, ⟨[97, 91, 48, 93], 5, false, 0, 3, 0⟩, ⟨[97, 91, 49, 93], 5, false, 0, 0, 0⟩, ⟨[97, 91, 50, 93], 5, false, 0, 0, 0⟩, ⟨[116, 46, 73, 78], 1, false, 0, 0, 9⟩, ⟨[116, 46, 80, 84], 6, false, 50, 0, 0⟩, ⟨[116, 46, 81], 1, false, 0, 0, 0⟩, ⟨[116, 46, 69, 84], 6, false, 0, 0, 0⟩, ⟨[116, 46, 84, 48], 6, false, 0, 0, 0⟩, ⟨[116, 46, 82, 85, 78], 1, false, 0, 0, 0⟩, ⟨[99, 46, 67, 85], 1, false, 0, 0, 10⟩, ⟨[99, 46, 82], 1, false, 0, 0, 0⟩, ⟨[99, 46, 80, 86], 5, false, 3, 0, 0⟩, ⟨[99, 46, 81], 1, false, 0, 0, 0⟩, ⟨[99, 46, 67, 86], 5, false, 0, 0, 0⟩, ⟨[99, 46, 79, 76, 68], 1, false, 0, 0, 0⟩]
def newC (keep : Bool) : List CellV := [⟨[110], 5, keep, 0, 0, 0⟩, ⟨[98], 1, false, 1, 0, 0⟩, ⟨[119], 3, false, 5, 0, 0⟩, ⟨[105], 5, true, 77, 0, 0⟩, ⟨[97, 91, 48, 93], 5, false, 0, 5, 0⟩, ⟨[97, 91, 49, 93], 5, false, 0, 0, 0⟩, ⟨[97, 91, 50, 93], 5, false, 0, 0, 0⟩, ⟨[97, 91, 51, 93], 5, false, 0, 0, 0⟩, ⟨[97, 91, 52, 93], 5, false, 0, 0, 0⟩, ⟨[116, 46, 73, 78], 1, false, 0, 0, 9⟩, ⟨[116, 46, 80, 84], 6, false, 50, 0, 0⟩, ⟨[116, 46, 81], 1, false, 0, 0, 0⟩, ⟨[116, 46, 69, 84], 6, false, 0, 0, 0⟩, ⟨[116, 46, 84, 48], 6, false, 0, 0, 0⟩, ⟨[116, 46, 82, 85, 78], 1, false, 0, 0, 0⟩, ⟨[99, 46, 67, 85], 1, false, 0, 0, 10⟩, ⟨[99, 46, 82], 1, false, 0, 0, 0⟩, ⟨[99, 46, 80, 86], 5, false, 3, 0, 0⟩, ⟨[99, 46, 81], 1, false, 0, 0, 0⟩, ⟨[99, 46, 67, 86], 5, false, 0, 0, 0⟩, ⟨[99, 46, 79, 76, 68], 1, false, 0, 0, 0⟩]
theorem old_cells : cellsP (symVs 3 true 4 (-3)) = oldC := by kernel_rfl
theorem new_cells (keep : Bool) : cellsP (symVs 5 keep 5 77) = newC keep := by kernel_rfl
def oldZ (z0 z3 : Int) : List Int := ((oldC.map (·.init)).set 0 z0).set 3 z3
def oldK (z0 z3 : Int) : List KepS := [⟨[110], 5, z0⟩, ⟨[105], 4, z3⟩]
theorem old_take (z0 z3 : Int) : takeP oldC (oldZ z0 z3) = oldK z0 z3 := rfl
theorem new_give0 (keep : Bool) (z0 z3 : Int) : ((giveP (newC keep) (oldK z0 z3)).map (Value.int .i64))[0]? = some (.int .i64 (if keep then z0 else 0)) := by cases keep <;> rfl
theorem new_give3 (keep : Bool) (z0 z3 : Int) : ((giveP (newC keep) (oldK z0 z3)).map (Value.int .i64))[3]? = some (.int .i64 77) := by cases keep <;> rfl
theorem new_ok (keep : Bool) : ∀ c ∈ newC keep, c.path.length ≤ 9223372036854775807 ∧ I64 c.kind := fun c hc => by
  have h : (newC keep).all (fun c => decide (c.path.length ≤ 100) && (decide (-100 ≤ c.kind) && decide (c.kind ≤ 100))) = true := by cases keep <;> decide +kernel
  have h1 := List.all_eq_true.1 h c hc
  simp only [Bool.and_eq_true, decide_eq_true_eq] at h1
  exact ⟨by omega, by unfold I64; omega⟩
theorem oldK_ok (z0 z3 : Int) (h0 : I64 z0) (h3 : I64 z3) : ∀ k ∈ oldK z0 z3, k.path.length ≤ 9223372036854775807 ∧ I64 k.kind ∧ I64 k.value := fun k hk => by
  simp only [oldK, List.mem_cons, List.not_mem_nil, or_false] at hk
  rcases hk with rfl | rfl
  · exact ⟨by simp, by unfold I64; simp, h0⟩
  · exact ⟨by simp, by unfold I64; simp, h3⟩
theorem symOf_mem {w0 W : World} {V : Vars} (hL : Lay w0 W V) (i : Nat) {g : Nat} (nm : List UInt8) (k e n : Int) (r : Bool) (zs : List Int) (hi : V[i]? = some (g, intO zs, 3)) (hz : zs.length ≤ 1000) : SymM W (symOf nm k e n r zs g) :=
  ⟨⟨Rw.nil _ _, Nat.le_refl _, by show (0 : Nat) ≤ _; omega⟩, by
    have := Vs.lit (hL.at_ i hi) rfl
    show Vs W (some ⟨g, 0, none⟩) zs.length (zs.map (Value.int .i64))
    simpa [intO] using this, Nat.le_refl _, by show zs.length ≤ _; omega⟩
theorem symV_syms {w0 W : World} {nb : Nat} {r0 : Bool} {k3 z3 : Int} {gY g0 g1 g2 g3 g4 g5 g6 : Nat} (hL : Lay w0 W (symV nb r0 k3 z3 gY g0 g1 g2 g3 g4 g5 g6)) (hn : nb ≤ 1000) : Syms W (some ⟨gY, 0, none⟩) 7 (symL nb r0 k3 z3 g0 g1 g2 g3 g4 g5 g6) := by
  refine ⟨⟨rfl, fun _ => ⟨gY, 0, rfl, fun i p hp j u hu => ?_⟩⟩, fun a ha => ?_⟩
  · have h1 := flatR_at symE _ i p hp j u hu
    rw [Nat.zero_add]
    exact hL.get 0 rfl h1
  · simp only [symL, List.mem_cons, List.not_mem_nil, or_false] at ha
    rcases ha with rfl | rfl | rfl | rfl | rfl | rfl | rfl
    · exact symOf_mem hL 7 _ _ _ _ _ _ rfl (by simp)
    · exact symOf_mem hL 6 _ _ _ _ _ _ rfl (by simp)
    · exact symOf_mem hL 5 _ _ _ _ _ _ rfl (by simp)
    · exact symOf_mem hL 4 _ _ _ _ _ _ rfl (by simp)
    · exact symOf_mem hL 3 _ _ _ _ _ _ rfl (by simpa using hn)
    · exact symOf_mem hL 2 _ _ _ _ _ _ rfl (by simp)
    · exact symOf_mem hL 1 _ _ _ _ _ _ rfl (by simp)
theorem symL_ok {nb : Nat} {r0 : Bool} {k3 z3 : Int} {g0 g1 g2 g3 g4 g5 g6 : Nat} (hn : 1 ≤ nb ∧ nb ≤ 8) (hk : 1 ≤ k3 ∧ k3 ≤ 6) : ∀ a ∈ symL nb r0 k3 z3 g0 g1 g2 g3 g4 g5 g6, TypOk a.s.typ ∧ a.s.name.length ≤ 1000 := fun a ha => by
  simp only [symL, List.mem_cons, List.not_mem_nil, or_false] at ha
  rcases ha with rfl | rfl | rfl | rfl | rfl | rfl | rfl
  · exact ⟨typ_bare 5 (by omega) (by omega) (by omega), by simp [symOf, A0]⟩
  · exact ⟨typ_bare 1 (by omega) (by omega) (by omega), by simp [symOf, A0]⟩
  · exact ⟨typ_bare 3 (by omega) (by omega) (by omega), by simp [symOf, A0]⟩
  · exact ⟨typ_bare k3 (by omega) (by omega) (by omega), by simp [symOf, A0]⟩
  · exact ⟨typ_arr 5 nb (by omega) (by omega), by simp [symOf, A0]⟩
  · exact ⟨typ_bare 9 (by omega) (by omega) (by omega), by simp [symOf, A0]⟩
  · exact ⟨typ_bare 10 (by omega) (by omega) (by omega), by simp [symOf, A0]⟩
end Go.Proofs.Ytcpifcdndhhmgaa
set_option linter.unusedVariables false
set_option linter.unusedSimpArgs false
namespace Go.Proofs.Ytcpifcdndhhmgaa
open Go.RowKit
def KsOk (l : List KepS) : Prop := ∀ k ∈ l, k.path.length ≤ 9223372036854775807 ∧ I64 k.kind ∧ I64 k.value
/-- a row of kept values that lies in a cell -/
def RowAt (w : World) (g i : Nat) (l : List KepS) : Prop := ∃ A n c, w.cell? ⟨g, i, none⟩ = some (.slice A n c) ∧ KeS w A n l ∧ n ≤ 1000 ∧ n ≤ c ∧ c ≤ 9223372036854775807 ∧ KsOk l
end Go.Proofs.Ytcpifcdndhhmgaa
