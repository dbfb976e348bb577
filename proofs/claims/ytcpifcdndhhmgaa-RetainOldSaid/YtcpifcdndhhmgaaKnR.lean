/- What is given to cells: the document's. Variables such as may be: their cells' paths differ, so what was taken is given back. No program in sight. One string behind another, in regions that are walked in their order or not. No program in sight. Regions that draw their order, at one place of which what is no floater may come in one of some orders: a walk for each, the common front once. No program in sight. The sparse walk: a drawn region with whatever said of the world on its way. No program in sight. -/
import Derived.Test.YtcpifcdndhhmgaaTakTake
import Derived.Test.YtcpifcdndhhmgaaRetRd
import Derived.Test.YtcpifcdndhhmgaaTakFld
import Derived.Test.YtcpifcdndhhmgaaKnF
import Derived.Laws.Concat
import Derived.Test.YtcpifcdndhhmgaaKn
set_option linter.unusedVariables false
set_option linter.unusedSimpArgs false
namespace Go.Proofs.Ytcpifcdndhhmgaa
open Go.RowKit
attribute [local go_sem] ev_tmp ev_const ev_func ev_global lk_hit lk_miss uponK_value uponK_skip look_tmp look_const look_global look_func valP_value
def hitK (c : CellV) (k : KepS) : Bool := (k.path == c.path) && (k.kind == c.kind)
def foundK (c : CellV) (ks : List KepS) : Int := ((ks.find? (hitK c)).map (·.value)).getD c.init
def giveOne (ks : List KepS) (c : CellV) : Int := if c.retain then foundK c ks else c.init
def giveP (l : List CellV) (ks : List KepS) : List Int := l.map (giveOne ks)
theorem drop_at {α : Type} (l : List α) (j : Nat) (p : α) (h : l[j]? = some p) : l.drop j = p :: l.drop (j + 1) := by
  obtain ⟨h1, h2⟩ := List.getElem?_eq_some_iff.1 h
  rw [List.drop_eq_getElem_cons h1, h2]
end Go.Proofs.Ytcpifcdndhhmgaa
set_option linter.unusedVariables false
set_option linter.unusedSimpArgs false
namespace Go.Proofs.Ytcpifcdndhhmgaa
/-- a variable's cells, ahead of their beginnings -/
def arrC (s : SymV) (i : Nat) : CellV := ⟨s.name ++ [91] ++ digS i ++ [93], s.typ.elem, false, 0, if i = 0 then s.typ.n else 0, 0⟩
def fldCell (s : SymV) (i : Nat) (f : FldV) : CellV := ⟨s.name ++ [46] ++ f.name, f.kind, false, 0, 0, if i = 0 ∧ s.typ.kind ≠ 8 then s.typ.kind else 0⟩
def baseP (s : SymV) : List CellV :=
  if 1 ≤ s.typ.kind ∧ s.typ.kind ≤ 6 then [⟨s.name, s.typ.kind, false, 0, 0, 0⟩]
  else if s.typ.kind = 7 then (List.range s.typ.n.toNat).map (arrC s)
  else (fieldsP s.typ).mapIdx (fldCell s)
/-- what a cell begins with -/
def fillP (s : SymV) (i : Nat) (c : CellV) : CellV := { c with retain := s.retain, init := s.init.getD i c.init }
def ofP (s : SymV) : List CellV := (baseP s).mapIdx (fillP s)
def cellsP (l : List SymV) : List CellV := (l.map ofP).flatten
/-- types such as may be -/
structure TypOk (t : TypV) : Prop where
  kind : 1 ≤ t.kind ∧ t.kind ≤ 10
  elem : t.kind = 7 → 1 ≤ t.elem ∧ t.elem ≤ 6
  n : t.kind = 7 → 1 ≤ t.n ∧ t.n ≤ 8
  some_ : t.kind = 8 → 1 ≤ t.fields.length
  fields : ∀ f ∈ t.fields, 1 ≤ f.kind ∧ f.kind ≤ 6 ∧ f.name.length ≤ 20
  few : t.fields.length ≤ 6
  names : (t.fields.map (·.name)).Nodup
/-- variables such as may be -/
structure SymOk (i : Nat) (s : SymV) : Prop where
  name : s.name = [118, UInt8.ofNat (97 + i)]
  typ : TypOk s.typ
  init : (s.init.length : Int) = sizeP s.typ
  i64 : ∀ z ∈ s.init, I64 z
def SymsOk (l : List SymV) : Prop := l.length ≤ 10 ∧ ∀ i s, l[i]? = some s → SymOk i s
theorem fieldsP_ok {t : TypV} (h : TypOk t) {f : FldV} (hf : f ∈ fieldsP t) : 1 ≤ f.kind ∧ f.kind ≤ 6 ∧ f.name.length ≤ 20 := by
  unfold fieldsP at hf
  split at hf
  · exact h.fields f hf
  split at hf
  · simp only [tonF, List.mem_cons, List.not_mem_nil, or_false] at hf
    rcases hf with rfl | rfl | rfl | rfl | rfl | rfl <;> decide
  split at hf
  · simp only [ctuF, List.mem_cons, List.not_mem_nil, or_false] at hf
    rcases hf with rfl | rfl | rfl | rfl | rfl | rfl <;> decide
  · cases hf
theorem fieldsP_len {t : TypV} (h : TypOk t) : (fieldsP t).length ≤ 6 := by
  unfold fieldsP
  split
  · exact h.few
  split
  · decide
  split
  · decide
  · simp
theorem base_len {s : SymV} (h : TypOk s.typ) : ((baseP s).length : Int) = sizeP s.typ := by
  unfold baseP sizeP
  split
  · simp
  split
  · next h7 => have := h.n h7; simp; omega
  · simp
theorem size_le {t : TypV} (h : TypOk t) : 0 ≤ sizeP t ∧ sizeP t ≤ 8 := by
  have h1 := fieldsP_len h
  unfold sizeP
  split
  · omega
  split
  · next h7 => have := h.n h7; omega
  · omega
theorem of_len {s : SymV} (h : TypOk s.typ) : ((ofP s).length : Int) = sizeP s.typ := by rw [← base_len h]; simp [ofP]
theorem cells_len' : ∀ (l : List SymV), (∀ s ∈ l, TypOk s.typ) → (cellsP l).length ≤ 8 * l.length
  | [], _ => by simp [cellsP]
  | s :: l, h => by
    have h1 := cells_len' l (fun s hs => h s (List.mem_cons_of_mem _ hs))
    have h2 := of_len (h s (List.mem_cons_self ..))
    have h3 := size_le (h s (List.mem_cons_self ..))
    have : cellsP (s :: l) = ofP s ++ cellsP l := by simp [cellsP]
    rw [this, List.length_append, List.length_cons]
    omega
theorem SymsOk.typ {l : List SymV} (h : SymsOk l) : ∀ s ∈ l, TypOk s.typ := fun s hs => by
  obtain ⟨i, hi⟩ := List.getElem?_of_mem hs
  exact (h.2 i s hi).typ
end Go.Proofs.Ytcpifcdndhhmgaa
set_option linter.unusedVariables false
set_option linter.unusedSimpArgs false
namespace Go.Proofs.Ytcpifcdndhhmgaa
open Go.RowKit
section
variable {P : Program} {R : World → Prop} {Q : Exit → Act → World → Prop} {n : Nat} {L : Slots} {w : World} {ops : Array Oper} {fls : List Bool} {rest : List Oper} {o : Oper}
theorem run_cat {ty : TypeId} (a b : List UInt8) {c : List UInt8} (hc : a ++ b = c) (hl : a.length + b.length ≤ 1000000) (W : World) : (binOp .add ty (.string ⟨a.toArray⟩) (.string ⟨b.toArray⟩)).run P W = .ok (.string ⟨c.toArray⟩) W := by
  rw [binOp_string_add, run_string_add_lists W a b (by omega) (by omega), hc]
theorem kf_cat {d : Nat} {x y : Operand} {ty ty2 : TypeId} (a b : List UInt8) {c : List UInt8} (hc : a ++ b = c) (hl : a.length + b.length ≤ 1000000)
    (hd : o.dst = some d) (hg : o.guard = none) (ho : o.op = .binOp .add ty x y ty2) (hx : okx L x = true) (hy : okx L y = true) (ex : ev L x = .string ⟨a.toArray⟩) (ey : ev L y = .string ⟨b.toArray⟩) (hn : Nat.blt d n = true)
    (h : KF P ops R Q fls rest n ((d, .string ⟨c.toArray⟩) :: L) w) : KF P ops R Q (true :: fls) (o :: rest) n L w :=
  kf_run hd hg (by simp [ho, okop, hx, hy, hn]) (fun W _ => by
    simp only [execOp, ho, ex, ey, eqGuard_add, Sem.run_bind, Sem.run_pure, Result.andThen_ok, run_cat a b hc hl W]) h
end
end Go.Proofs.Ytcpifcdndhhmgaa
set_option linter.unusedVariables false
set_option linter.unusedSimpArgs false
namespace Go.Proofs.Ytcpifcdndhhmgaa
open Go.RowKit
abbrev Rem := List (Nat × Bool × Oper)
section
variable {P : Program} {ops : Array Oper} {R : World → Prop} {Q : Exit → Act → World → Prop}
def QN (N : Act → World → Prop) : Exit → Act → World → Prop := fun _ a w => N a w
theorem fq_mono {N N' : Act → World → Prop} {o : Oper} {a : Act} {w : World} (h : ∀ a w, N a w → N' a w) (hh : wpList P ops (FQ R N) [o] a w) : wpList P ops (FQ R N') [o] a w := by
  rw [one_iff] at hh ⊢
  split
  · rename_i hw; rw [if_pos hw] at hh; exact Oper.wp_mono (fun a w k => ⟨k.1, h _ _ k.2⟩) hh
  · rename_i hw; rw [if_neg hw] at hh; exact ⟨hh.1, h _ _ hh.2⟩
end
section
variable {P : Program} {R : World → Prop} {Q : Exit → Act → World → Prop} {l : List Oper} {fls : List Bool}
/-- p stands ahead of q: q waits for it, or the two are apart and one of them is a floater -/
def okp (l : List Oper) (p q : Nat × Bool × Oper) : Bool := ((masksFrom [] l).getD q.1 0).testBit p.1 || ((p.2.1 || q.2.1) && p.2.2.apart l.toArray q.2.2)
def okq (l : List Oper) (h : Nat) (p q : Nat × Bool × Oper) : Bool := okp l p q || ((p.1 == h) && !q.2.1)
structure GJ (l : List Oper) (fls : List Bool) (rel : Nat × Bool × Oper → Nat × Bool × Oper → Bool) (listed : Array Bool) (rem : Rem) : Prop where
  at_ : ∀ p ∈ rem, l[p.1]? = some p.2.2 ∧ fls.getD p.1 false = p.2.1
  mem : ∀ k, k < l.length → (listed.getD k false = false ↔ ∃ p ∈ rem, p.1 = k)
  nodup : (rem.map (·.1)).Nodup
  pairs : rem.Pairwise fun p q => rel p q = true
structure LJ (l : List Oper) (listed : Array Bool) : Prop where
  size : listed.size = l.length
  closed : ∀ i o, l[i]? = some o → listed.getD i false = true → ∀ j, bindsTo o j = true → listed.getD j false = true
theorem LJ.step {listed : Array Bool} (J : LJ l listed) {i : Nat} {o : Oper} (ho : l[i]? = some o) (hpre : ∀ j, bindsTo o j = true → listed.getD j false = true) : LJ l (listed.setIfInBounds i true) := by
  have hlt := (List.getElem?_eq_some_iff.1 ho).1
  refine ⟨by simp [J.size], fun k q hk hl' j hb => ?_⟩
  by_cases hji : i = j
  · subst hji; exact getD_set_self _ _ (by rw [J.size]; exact hlt)
  · rw [Go.Proofs.Ytcpifcdndhhmgaa.getD_set_ne _ _ _ hji]
    by_cases hki : i = k
    · subst hki
      obtain rfl : o = q := by rw [ho] at hk; injection hk
      exact hpre j hb
    · rw [Go.Proofs.Ytcpifcdndhhmgaa.getD_set_ne _ _ _ hki] at hl'
      exact J.closed k q hk hl' j hb
theorem ready_masks {listed : Array Bool} (J : LJ l listed) {i : Nat} {o : Oper} (ho : l[i]? = some o) (hpre : ∀ j, bindsTo o j = true → listed.getD j false = true) : ∀ j, ((masksFrom [] l).getD i 0).testBit j = true → listed.getD j false = true :=
  (masks_ok (listed := fun j => listed.getD j false = true) J.closed l [] 0 ⟨rfl, fun i o hi => absurd hi (by omega)⟩ rfl (Nat.zero_le _)).2 i o (List.getElem?_eq_some_iff.1 ho).1 ho hpre
theorem all_listed {listed : Array Bool} (J : LJ l listed) (h : ∀ k, k < l.length → listed.getD k false = true) : Region.ready .any l.toArray listed = [] := by
  apply List.filter_eq_nil_iff.2
  intro i hi
  simp at hi
  have := h i hi
  have h2 : listed.getD i true = true := by
    have hi' : i < listed.size := by rw [J.size]; exact hi
    simp [hi'] at this ⊢
    exact this
  simp [h2]
/-- a step, by what the operation gives -/
theorem op_float {i : Nat} {o : Oper} {v : Value} {A : Act} {W : World} {K : Act → World → Prop} (hli : l.toArray[i]? = some o) (hR : R W) (hv : YieldsR P l.toArray R o v A) (hn : K (A.put o.dst v) W) : wpOp P l.toArray Q i K A W := by
  refine wpOp_step hli fun K' hK' => ?_
  rcases hv with ⟨hw, hv⟩ | ⟨hw, rfl⟩
  · rw [if_pos hw]
    unfold Oper.wp
    rw [hv W hR]
    exact hK' _ _ hn
  · rw [if_neg (by rw [hw]; simp)]
    exact hK' _ _ hn
theorem op_chain {i : Nat} {o : Oper} {A : Act} {W : World} {N K : Act → World → Prop} (hli : l.toArray[i]? = some o) (hC : wpList P l.toArray (FQ R N) [o] A W) (hn : ∀ A W, R W → N A W → K A W) : wpOp P l.toArray Q i K A W := by
  rw [one_iff] at hC
  refine wpOp_step hli fun K' hK' => ?_
  by_cases hw : Region.wanted o (yielded l.toArray A.tmps) = true
  · rw [if_pos hw] at hC ⊢
    have hC := Oper.wp_mono (fun a' w' h => hK' _ _ (hn _ _ h.1 h.2)) hC
    unfold Oper.wp at hC ⊢
    generalize (execOp A.eval o).run P W = r at hC ⊢
    cases r with
    | ok n w' =>
      cases n <;> simp only [Oper.upon] at hC ⊢ <;> try exact hC
      exact Calls.mono hC fun e w'' he => by
        cases e with
        | returned v => exact he
        | panicked c => exact he.elim
        | outgrown => exact he.elim fun _ h => h.elim fun _ h => h.elim
    | halt x w' => cases x <;> simp only [Oper.upon] at hC
  · rw [if_neg hw] at hC ⊢
    exact hK' _ _ (hn _ _ hC.1 hC.2)
/-- a fork: the common front, and the orders behind it, each with what comes first of its own -/
structure Alt where
  h : Nat
  rem : Rem
end
/-! ### over what is known -/
def nthO : List Oper → Nat → Option Oper
  | o :: _, 0 => some o
  | _ :: r, n + 1 => nthO r n
  | [], _ => none
def nthB : List Bool → Nat → Bool
  | o :: _, 0 => o
  | _ :: r, n + 1 => nthB r n
  | [], _ => false
theorem nthO_eq : ∀ (l : List Oper) (n : Nat), nthO l n = l[n]?
  | [], n => by cases n <;> rfl
  | o :: r, 0 => rfl
  | o :: r, n + 1 => by rw [nthO, nthO_eq r n]; rfl
def pickO (l : List Oper) : List Nat → List Oper
  | [] => []
  | i :: r => match nthO l i with
    | some o => o :: pickO l r
    | none => pickO l r
def pickF (fls : List Bool) : List Nat → List Bool
  | [] => []
  | i :: r => nthB fls i :: pickF fls r
def pickR (fls : List Bool) (l : List Oper) : List Nat → Rem
  | [] => []
  | i :: r => match nthO l i with
    | some o => (i, nthB fls i, o) :: pickR fls l r
    | none => pickR fls l r
theorem nthO_some {l : List Oper} {i : Nat} (h : i < l.length) : nthO l i = some l[i] := by rw [nthO_eq]; exact List.getElem?_eq_getElem h
def relB (rel : Nat × Bool × Oper → Nat × Bool × Oper → Bool) : Rem → Bool
  | [] => true
  | p :: r => r.all (fun q => rel p q && p.1 != q.1) && relB rel r
def headC (fls : List Bool) (alt : List Nat) : Nat := (alt.find? fun i => !nthB fls i).getD 0
def forkOk (fls : List Bool) (l : List Oper) (pre : List Nat) (alts : List (List Nat)) : Bool :=
  edgesBack l && l.all noSelB && !alts.isEmpty && (alts.all fun alt => (pre ++ alt).all (fun i => decide (i < l.length)) && (List.range l.length).all (fun i => (pre ++ alt).contains i) &&
    relB (okq l (headC fls alt)) (pickR fls l (pre ++ alt)) && pre.all (fun i => i != headC fls alt) && alt.contains (headC fls alt) && !nthB fls (headC fls alt)) &&
  (List.range l.length).all fun c => nthB fls c || pre.contains c || alts.any (fun alt => headC fls alt == c) || (List.range l.length).any fun d => !nthB fls d && !pre.contains d && ((masksFrom [] l).getD c 0).testBit d
section
variable {P : Program} {R : World → Prop} {Q : Exit → Act → World → Prop} {n : Nat} {L : Slots} {w : World}
/-- what the front ends in: each of the orders goes on -/
def Forks (P : Program) (l : List Oper) (R : World → Prop) (Q : Exit → Act → World → Prop) (fls : List Bool) (alts : List (List Nat)) : Exit → Act → World → Prop := QN fun a w => ∀ alt ∈ alts, wpF P l.toArray R Q ((pickF fls alt).zip (pickO l alt)) a w
end
end Go.Proofs.Ytcpifcdndhhmgaa
set_option linter.unusedVariables false
set_option linter.unusedSimpArgs false
namespace Go.Proofs.Ytcpifcdndhhmgaa
open Go.RowKit
/-! ### with what is said of operations that give nothing (stores) -/
section
variable {P : Program} {ops : List Oper} {Q : Exit → Act → World → Prop} {a : Act} {S : Nat → World → Value → Prop} {R : World → Prop} {Step : World → World → Prop}
def DoneN (ops : List Oper) (S : Nat → World → Value → Prop) (listed : Array Bool) (W : World) : Prop := ∀ i o, ops[i]? = some o → listed.getD i false = true → o.dst = none → ∃ v, S i W v
end
section
variable {P : Program} {ops : List Oper} {Q : Exit → Act → World → Prop} {n : Nat} {L : Slots} {w : World}
def MonoR (Step : World → World → Prop) : List (Option (World → Value → Prop)) → Prop
  | [] => True
  | none :: r => MonoR Step r
  | some p :: r => (∀ W W' v, Step W W' → p W v → p W' v) ∧ MonoR Step r
def MonoRA (Step : World → World → Prop) : List (World → Value → Prop) → Prop
  | [] => True
  | p :: r => (∀ W W' v, Step W W' → p W v → p W' v) ∧ MonoRA Step r
theorem MonoRA.get {Step : World → World → Prop} {Ss : List (World → Value → Prop)} (h : MonoRA Step Ss) : ∀ i W W' v, Step W W' → SL Ss i W v → SL Ss i W' v := by
  induction Ss with
  | nil => intro i W W' v _ _; exact trivial
  | cons p r ih =>
    intro i
    cases i with
    | zero => exact h.1
    | succ i => exact ih h.2 i
def VR (P : Program) (R : World → Prop) (Step : World → World → Prop) (L : Slots) (Ss : List (World → Value → Prop)) (src : List (Nat × Option Nat)) (i : Nat) (o : Oper) : Prop :=
  ∀ (A : Act) (W : World) (N : Value → World → Prop), R W → SrcK L Ss A W src → (∀ v W', R W' → Step W W' → SL Ss i W' v → N v W') →
    if Region.wanted o (yielded ops.toArray A.tmps) = true then uponK P N (fun W' => N undef W') ((execOp A.eval o).run P W) else N undef W
def VRs (P : Program) (R : World → Prop) (Step : World → World → Prop) (ops : List Oper) (L : Slots) (Ss : List (World → Value → Prop)) : Nat → List (List (Nat × Option Nat)) → List Oper → Prop
  | _, _, [] => True
  | i, srcs, o :: rest => VR (ops := ops) P R Step L Ss (srcs.headD []) i o ∧ VRs P R Step ops L Ss (i + 1) srcs.tail rest
variable {R : World → Prop} {Step : World → World → Prop} {Ss : List (World → Value → Prop)} {src : List (Nat × Option Nat)} {i : Nat} {o : Oper}
end
/-- a block of code by its number -/
def findBlock (id : Nat) : Code → Option Code
  | .block i c => if i = id then some (.block i c) else findBlock id c
  | .loop c => findBlock id c
  | .scope c => findBlock id c
  | .seq a b => match findBlock id a with
    | some c => some c
    | none => findBlock id b
  | .cond _ a b => match findBlock id a with
    | some c => some c
    | none => findBlock id b
  | _ => none
/-- the code from a region on, to the end of its row -/
def findRest (id : Nat) : Code → Option Code
  | .block _ c => findRest id c
  | .loop c => findRest id c
  | .scope c => findRest id c
  | .seq a b => match a with
    | .region i ops d => if i = id then some (.seq (.region i ops d) b) else findRest id b
    | a => match findRest id a with
      | some c => some c
      | none => findRest id b
  | .cond _ a b => match findRest id a with
    | some c => some c
    | none => findRest id b
  | _ => none
noncomputable def restAt (f : Func) (id : Nat) : Code := ((f.body).bind (findRest id)).getD .skip
noncomputable def blockOf (f : Func) (id : Nat) : Code := ((f.body).bind (findBlock id)).getD .skip

end Go.Proofs.Ytcpifcdndhhmgaa
