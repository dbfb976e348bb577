/- SessionSums: the walk. -/
import Derived.Test.YtonjpjiphcbemaaSesKnown
import Derived.Test.YtonjpjiphcbemaaLay
import Derived.Test.YtonjpjiphcbemaaShaRef
import Derived.Test.YtonjpjiphcbemaaCrcPlain
namespace Go.Proofs.Ytonjpjiphcbemaa
open Go.RowKit
theorem layK_all {α : Type} (l xs : List α) (h : xs.length = l.length) : layK l 0 xs xs.length = xs := by
  unfold layK
  rw [List.take_zero, List.nil_append, List.take_length, List.drop_of_length_le (by omega), List.append_nil]
theorem slice_ne {gx g n cx : Nat} (h : gx ≠ g) (b o m c : Nat) (e : Value.slice (some ⟨gx, 0, none⟩) n cx = .slice (some ⟨b, o, none⟩) m c) : b ≠ g := by cases e; exact h
theorem LayV.far {w w' : World} {B b : Nat} : ∀ {V : Vars}, LayV w B V → (∀ p ∈ V, p.1 ≠ b) → (∀ (k : Nat) (x : Obj), k ≠ b → w.heap[k]? = some x → w'.heap[k]? = some x) → LayV w' B V
  | [], _, _, _ => trivial
  | (g, cs, t) :: V, h, hn, k => ⟨h.1, k _ _ (hn (g, cs, t) List.mem_cons_self) h.2.1, h.2.2.1, LayV.far h.2.2.2 (fun p hp => hn p (List.mem_cons_of_mem _ hp)) k⟩
/-- a store into a row of its own, none of the variables -/
theorem Lay.far {w0 w : World} {V : Vars} (h : Lay w0 w V) {b : Nat} (hb : w0.heap.size ≤ b) (hn : ∀ p ∈ V, p.1 ≠ b) (j : Nat) (u : Value) : Lay w0 (w.setCell ⟨b, j, none⟩ u) V :=
  ⟨h.below.setCell hb _, LayV.far h.vars hn fun k x hk hx => by rw [Below.heap_setCell _ _ _ _ hk]; exact hx⟩
theorem cnt_trues (n : Nat) : cnt false (List.replicate n true) = 0 := by simp [cnt]
theorem clash_falses (s : Ses) (f : Frm) (n : Nat) (h : s.got = List.replicate n false) : clash s f = false := by
  refine List.any_eq_false.2 fun i _ => ?_
  rw [h, List.getD_eq_getElem?_getD, List.getElem?_replicate]
  split <;> simp
theorem clash_sameD (s : Ses) (f : Frm) (h : f.data = s.data) (ha : f.at_ = 0) : clash s f = false := by
  refine List.any_eq_false.2 fun i _ => ?_
  rw [ha, h]
  simp
def SumsP (w : World) (e : Ending) (w' : World) : Prop := e = .returned (.bool true) ∧ Below w.heap.size w w'
def fS (n : Nat) (H : List UInt8) : Frm := ⟨1, 1, n, 0, H, []⟩
def sS (n : Nat) (H : List UInt8) : Ses := ⟨1, n, H, List.replicate n 0, List.replicate n false⟩
def cS (X : List UInt8) : Frm := ⟨2, 1, 0, 0, z32, X⟩
def tS (n : Nat) (H X : List UInt8) : Ses := ⟨1, n, H, X, List.replicate n true⟩
theorem begin_fS (n : Nat) (H : List UInt8) (h0 : 0 < n) (h1 : n ≤ 1000) : beginS (fS n H) = sS n H ∧ beginE (fS n H) = 0 := by
  have hb : ¬ badF (fS n H) := by unfold badF fS; simp only []; omega
  exact ⟨(if_neg hb).trans (by simp [fS, sS]), if_neg hb⟩
theorem argBad_no {s : Ses} {X : List UInt8} (h0 : 0 < X.length) (hs : s.size = (X.length : Int)) : ¬ argBad s (cS X) := by
  unfold argBad cS
  simp only [hs]
  omega
theorem chunk_cS (n : Nat) (H X : List UInt8) (hX : X.length = n) (h0 : 0 < n) : chunkE (sS n H) (cS X) = 0 ∧ chunkS (sS n H) (cS X) = tS n H X := by
  have hc : clash (sS n H) (cS X) = false := clash_falses _ _ n rfl
  have he : chunkE (sS n H) (cS X) = 0 := by
    unfold chunkE
    rw [if_neg (fun h => h rfl), if_neg (argBad_no (by omega) (by rw [hX]; rfl)), if_neg (by rw [hc]; simp)]
  refine ⟨he, ?_⟩
  unfold chunkS
  rw [if_pos he]
  have h1 : layK (List.replicate n (0 : UInt8)) 0 X X.length = X := layK_all _ _ (by simp [hX])
  have h2 : layK (List.replicate n false) 0 (List.replicate X.length true) X.length = List.replicate n true := by
    have := layK_all (List.replicate n false) (List.replicate X.length true) (by simp [hX])
    rw [List.length_replicate] at this
    rw [this, hX]
  show Ses.mk 1 n H (layK (List.replicate n 0) 0 X X.length) (layK (List.replicate n false) 0 (List.replicate X.length true) X.length) = _
  rw [h1, h2]
  rfl
theorem chunk_tS (n : Nat) (H X : List UInt8) (hX : X.length = n) (h0 : 0 < n) : chunkE (tS n H X) (cS X) = 0 := by
  have hc : clash (tS n H X) (cS X) = false := clash_sameD _ _ rfl rfl
  unfold chunkE
  rw [if_neg (fun h => h rfl), if_neg (argBad_no (by omega) (by rw [hX]; rfl)), if_neg (by rw [hc]; simp)]
theorem whole_tS (n : Nat) (H X : List UInt8) (h : sha X ≠ H) : wholeE (tS n H X) = 15 := by
  unfold wholeE
  rw [if_neg (by rw [show (tS n H X).got = List.replicate n true from rfl, cnt_trues]; omega), if_neg (show ¬ sha (tS n H X).data = (tS n H X).sum from h)]
theorem frm_built (a b c d : Int) (H : List UInt8) (D : Value) (hH : H.length = 32) (hD : D.cells = [D].toArray) :
    Try.prog.built 36 [(0, .int .i64 a), (1, .int .i64 b), (2, .int .i64 c), (4, .agg (bv H).toArray)] = some (frmV ⟨a, b, c, 0, H, []⟩ (.slice none 0 0)).toArray := by
  obtain ⟨fs, hu, hp⟩ := frmUnder
  rw [built_struct frmZero hu hp]
  have h1 := fill_step ([(0, 1), (1, 1), (2, 1), (3, 1), (4, 32), (36, 1)].toArray[·]?) [] zFrm 0 _ _ (cells_int .i64 a) rfl (Nat.le_of_ble_eq_true rfl)
  simp only [List.nil_append] at h1
  rw [h1, fill_step _ _ _ 1 _ _ (cells_int .i64 b) rfl (Nat.le_of_ble_eq_true rfl), fill_step _ _ _ 2 _ _ (cells_int .i64 c) rfl (Nat.le_of_ble_eq_true rfl)]
  rw [show (([Value.int .i64 a] ++ [Value.int .i64 b] ++ [Value.int .i64 c]) ++ List.drop [Value.int .i64 c].length (List.drop [Value.int .i64 b].length (List.drop [Value.int .i64 a].length zFrm)) : List Value) =
    ([Value.int .i64 a] ++ [Value.int .i64 b] ++ [Value.int .i64 c] ++ [.int .i64 0]) ++ (bv z32 ++ [.slice none 0 0]) from rfl]
  rw [fill_step _ _ _ 4 _ _ (cells_agg (bv H)) (by simp [length_bv, hH]) (by simp [length_bv, hH, z32_len]), fill_nil]
  refine congrArg (fun l : List Value => some l.toArray) ?_
  rw [List.drop_append_of_le_length (by simp [length_bv, hH, z32_len]), List.drop_of_length_le (by simp [length_bv, hH, z32_len])]
  simp [frmV]
end Go.Proofs.Ytonjpjiphcbemaa
