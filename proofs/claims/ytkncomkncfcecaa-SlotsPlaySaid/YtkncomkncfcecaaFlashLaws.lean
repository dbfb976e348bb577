/- The sparse walk: a drawn region with whatever said of the world on its way. No program in sight. The sparse walk's laws for append at bytes. The sparse walk: appends of whatever elements, slices of bytes in a row of the call's own, arrays in memory. Acts of SlotsPlay as memory; Few. An argument '[]Act' of SlotsPlay, opened; no program in sight but for the structs' fields. The flash memory, plain: a program and an erasure while the power stays. -/
import Derived.Test.YtkncomkncfcecaaKn
import Derived.Test.YtkncomkncfcecaaFlashMem
import Derived.Deep.MidRow
import Derived.Test.YtkncomkncfcecaaActArgs
import Derived.Test.YtkncomkncfcecaaKnF
import Derived.Deep.Slices
set_option linter.unusedVariables false
set_option linter.unusedSimpArgs false
namespace Go.Proofs.Ytkncomkncfcecaa
open Go.RowKit
/-! ### with what is said of operations that give nothing (stores) -/
section
variable {P : Program} {ops : List Oper} {Q : Exit → Act → World → Prop} {a : Act} {S : Nat → World → Value → Prop} {R : World → Prop} {Step : World → World → Prop}
def DoneN (ops : List Oper) (S : Nat → World → Value → Prop) (listed : Array Bool) (W : World) : Prop := ∀ i o, ops[i]? = some o → listed.getD i false = true → o.dst = none → ∃ v, S i W v
end
section
variable {P : Program} {ops : List Oper} {Q : Exit → Act → World → Prop} {n : Nat} {L : Slots} {w : World}
def MonoR (Step : World → World → Prop) : List (Option (World → Value → Prop)) → Prop
  | [] => True
  | none :: r => MonoR Step r
  | some p :: r => (∀ W W' v, Step W W' → p W v → p W' v) ∧ MonoR Step r
def MonoRA (Step : World → World → Prop) : List (World → Value → Prop) → Prop
  | [] => True
  | p :: r => (∀ W W' v, Step W W' → p W v → p W' v) ∧ MonoRA Step r
theorem MonoRA.get {Step : World → World → Prop} {Ss : List (World → Value → Prop)} (h : MonoRA Step Ss) : ∀ i W W' v, Step W W' → SL Ss i W v → SL Ss i W' v := by
  induction Ss with
  | nil => intro i W W' v _ _; exact trivial
  | cons p r ih =>
    intro i
    cases i with
    | zero => exact h.1
    | succ i => exact ih h.2 i
def VR (P : Program) (R : World → Prop) (Step : World → World → Prop) (L : Slots) (Ss : List (World → Value → Prop)) (src : List (Nat × Option Nat)) (i : Nat) (o : Oper) : Prop :=
  ∀ (A : Act) (W : World) (N : Value → World → Prop), R W → SrcK L Ss A W src → (∀ v W', R W' → Step W W' → SL Ss i W' v → N v W') →
    if Region.wanted o (yielded ops.toArray A.tmps) = true then uponK P N (fun W' => N undef W') ((execOp A.eval o).run P W) else N undef W
def VRs (P : Program) (R : World → Prop) (Step : World → World → Prop) (ops : List Oper) (L : Slots) (Ss : List (World → Value → Prop)) : Nat → List (List (Nat × Option Nat)) → List Oper → Prop
  | _, _, [] => True
  | i, srcs, o :: rest => VR (ops := ops) P R Step L Ss (srcs.headD []) i o ∧ VRs P R Step ops L Ss (i + 1) srcs.tail rest
variable {R : World → Prop} {Step : World → World → Prop} {Ss : List (World → Value → Prop)} {src : List (Nat × Option Nat)} {i : Nat} {o : Oper}
end
def findBlock (id : Nat) : Code → Option Code
  | .block i c => if i = id then some (.block i c) else findBlock id c
  | .loop c => findBlock id c
  | .scope c => findBlock id c
  | .seq a b => match findBlock id a with
    | some c => some c
    | none => findBlock id b
  | .cond _ a b => match findBlock id a with
    | some c => some c
    | none => findBlock id b
  | _ => none
def findRest (id : Nat) : Code → Option Code
  | .block _ c => findRest id c
  | .loop c => findRest id c
  | .scope c => findRest id c
  | .seq a b => match a with
    | .region i ops d => if i = id then some (.seq (.region i ops d) b) else findRest id b
    | a => match findRest id a with
      | some c => some c
      | none => findRest id b
  | .cond _ a b => match findRest id a with
    | some c => some c
    | none => findRest id b
  | _ => none
noncomputable def restAt (f : Func) (id : Nat) : Code := ((f.body).bind (findRest id)).getD .skip
noncomputable def blockOf (f : Func) (id : Nat) : Code := ((f.body).bind (findBlock id)).getD .skip
end Go.Proofs.Ytkncomkncfcecaa
set_option linter.unusedVariables false
set_option linter.unusedSimpArgs false
namespace Go.Proofs.Ytkncomkncfcecaa
open Go.RowKit
section
variable {Q : Exit → Act → World → Prop} {N : Nat} {L : Slots} {w : World} {ops : Array Oper} {rest : List Oper} {o : Oper}
theorem Vf {d x y : Nat} (base : Nat) (v : Value) (n : Nat) (l : List UInt8) (hown : w.ownsRow base 5 1 v n (bv l)) (A : Option Addr) (m c : Nat) (k : List UInt8) (hr : Bs w A m k) (hb : n + m ≤ 70368744177664) (hbase : base ≤ w.heap.size)
    (hd : o.dst = some d) (hg : o.guard = none) (ho : o.op = .call { callee := .builtin .append, args := #[.tmp x, .tmp y], argTypes := #[32, 32] })
    (hs : lk L x = some v) (hx : lk L y = some (.slice A m c)) (hn : Nat.blt d N = true)
    (h : ∀ v' w', w'.ownsRow base 5 1 v' (n + m) (bv (l ++ k)) → w.grownBy w' v.ownBlock → (v'.ownBlock = v.ownBlock ∨ v'.ownBlock = some w.heap.size) → KL Try.prog ops Q rest N ((d, v') :: L) w') : KL Try.prog ops Q (o :: rest) N L w :=
  ⟨fun a ka => appendB w hg (.tmp x) (.tmp y) ho base v n l (ka.ev hs) hown A m c k (ka.ev hx) hr hb hbase fun v' w' h1 h2 h3 => XG ka hd hn (h v' w' h1 h2 h3)⟩
theorem kl_clone {d x y : Nat} (B : Nat) (hB : B = w.heap.size) (A : Option Addr) (m c : Nat) (k : List UInt8) (hr : Bs w A m k) (hb : m ≤ 70368744177664)
    (hd : o.dst = some d) (hg : o.guard = none) (ho : o.op = .call { callee := .builtin .append, args := #[.tmp x, .tmp y], argTypes := #[32, 32] })
    (hs : lk L x = some (.slice (some ⟨B, 0, none⟩) 0 0)) (hx : lk L y = some (.slice A m c)) (hn : Nat.blt d N = true)
    (h : ∀ v' w', w'.ownsRow w.heap.size 5 1 v' m (bv k) → Below w.heap.size w w' → KL Try.prog ops Q rest N ((d, v') :: L) w') : KL Try.prog ops Q (o :: rest) N L (w.alloc (.cells #[] 5)) :=
  ⟨fun a ka => cloneB w hg (.tmp x) (.tmp y) ho B hB (ka.ev hs) A m c k (ka.ev hx) hr hb fun v' w' h1 h2 => XG ka hd hn (h v' w' h1 h2)⟩
end
end Go.Proofs.Ytkncomkncfcecaa
set_option linter.unusedVariables false
set_option linter.unusedSimpArgs false
namespace Go.Proofs.Ytkncomkncfcecaa
open Go.RowKit
def PsX (w : World) (xs : List Value) (ls : List (List UInt8)) : Prop :=
  xs.length = ls.length ∧ ∀ i (h : i < ls.length), ∃ B m c, xs[i]? = some (.slice B m c) ∧ Bs w B m ls[i] ∧ m ≤ c ∧ c ≤ 9223372036854775807
theorem PsX.nil (w : World) : PsX w [] [] := ⟨rfl, fun i h => by simp at h⟩
theorem PsX.keep {w w' : World} {xs : List Value} {ls : List (List UInt8)} (h : PsX w xs ls) (hk : Keeps w w') : PsX w' xs ls :=
  ⟨h.1, fun i hi => by obtain ⟨B, m, c, e, hb, r⟩ := h.2 i hi; exact ⟨B, m, c, e, hb.keep hk, r⟩⟩
theorem PsX.snoc {w : World} {xs : List Value} {ls : List (List UInt8)} (h : PsX w xs ls) {B : Option Addr} {m c : Nat} {l : List UInt8} (hb : Bs w B m l) (hm : m ≤ c) (hc : c ≤ 9223372036854775807) : PsX w (xs ++ [.slice B m c]) (ls ++ [l]) := by
  refine ⟨by simp [h.1], fun i hi => ?_⟩
  rw [List.length_append, List.length_singleton] at hi
  rcases Nat.lt_or_ge i ls.length with hlt | hge
  · obtain ⟨B', m', c', e, hb', r⟩ := h.2 i hlt
    refine ⟨B', m', c', by rw [List.getElem?_append_left (by rw [h.1]; exact hlt)]; exact e, ?_, r⟩
    rw [List.getElem_append_left hlt]; exact hb'
  · obtain rfl : i = ls.length := by omega
    refine ⟨B, m, c, by rw [List.getElem?_append_right (by rw [h.1]; exact Nat.le_refl _), h.1]; simp, ?_, hm, hc⟩
    rw [List.getElem_append_right (Nat.le_refl _)]
    simpa using hb
theorem PsX.ps {w : World} {A : Option Addr} {n : Nat} {xs : List Value} {ls : List (List UInt8)} (h : PsX w xs ls) (hv : Vs w A n xs) : Ps w A n ls := ⟨by rw [← h.1]; exact hv.1, xs, hv, h.2⟩
section
variable {P : Program} {Q : Exit → Act → World → Prop} {N : Nat} {L : Slots} {w : World} {ops : Array Oper} {rest : List Oper} {o : Oper}
theorem kl_appendV {d x y : Nat} (t e : TypeId) (z : Value) (bytes : Nat) (ht : P.underlying t = some (.slice e)) (hinfo : (P.info? e).map (fun i => (i.zero, i.size, i.bytes)) = some (some z, 1, bytes)) (hzs : z.cells.size = 1)
    (base : Nat) (v : Value) (n : Nat) (xs : List Value) (hown : w.ownsRow base e 1 v n xs) (A : Option Addr) (m c : Nat) (news : List Value) (hr : Vs w A m news) (h1 : ∀ u ∈ news, u.oneCell' = true)
    (hbytes : (n + m) * bytes ≤ 140737488355328) (h63 : n + m ≤ 9223372036854775807) (hbase : base ≤ w.heap.size)
    (hd : o.dst = some d) (hg : o.guard = none) (ho : o.op = .call { callee := .builtin .append, args := #[.tmp x, .tmp y], argTypes := #[t, t] })
    (hs : lk L x = some v) (hx : lk L y = some (.slice A m c)) (hn : Nat.blt d N = true)
    (h : ∀ v' w', w'.ownsRow base e 1 v' (n + m) (xs ++ news) → w.grownBy w' v.ownBlock → (v'.ownBlock = v.ownBlock ∨ v'.ownBlock = some w.heap.size) → KL P ops Q rest N ((d, v') :: L) w') : KL P ops Q (o :: rest) N L w := by
  obtain ⟨i0, hi0, hz0, hz1, hz2⟩ := info_parts hinfo
  exact ⟨fun a ka => YB w hg (.tmp x) (.tmp y) t ho base e i0 z bytes ht hi0 hz0 hz1 hz2 hzs v n xs (ka.ev hs) hown A m c news (ka.ev hx) hr h1 hbytes (by simpa [maxLen] using h63) hbase
    fun v' w' a1 a2 a3 => XG ka hd hn (h v' w' a1 a2 a3)⟩
theorem kl_appendN {d x y : Nat} (t e : TypeId) (z : Value) (size bytes : Nat) (ht : P.underlying t = some (.slice e)) (hinfo : (P.info? e).map (fun i => (i.zero, i.size, i.bytes)) = some (some z, size, bytes)) (hzs : z.cells.size = size) (hsz : 0 < size)
    (base : Nat) (v : Value) (n : Nat) (xs : List Value) (hown : w.ownsRow base e size v n xs) (g p m c : Nat) (news : List Value) (hl : news.length = m * size) (hr : w.rangeAt g p news) (h1 : ∀ u ∈ news, u.oneCell' = true)
    (hbytes : (n + m) * bytes ≤ 140737488355328) (h63 : n + m ≤ 9223372036854775807) (hbase : base ≤ w.heap.size)
    (hd : o.dst = some d) (hg : o.guard = none) (ho : o.op = .call { callee := .builtin .append, args := #[.tmp x, .tmp y], argTypes := #[t, t] })
    (hs : lk L x = some v) (hx : lk L y = some (.slice (some ⟨g, p, none⟩) m c)) (hn : Nat.blt d N = true)
    (h : ∀ v' w', w'.ownsRow base e size v' (n + m) (xs ++ news) → w.grownBy w' v.ownBlock → (v'.ownBlock = v.ownBlock ∨ v'.ownBlock = some w.heap.size) → KL P ops Q rest N ((d, v') :: L) w') : KL P ops Q (o :: rest) N L w := by
  obtain ⟨i0, hi0, hz0, hz1, hz2⟩ := info_parts hinfo
  exact ⟨fun a ka => wpList_append_own_at w hg (.tmp x) (.tmp y) t ho base e i0 z size bytes ht hi0 hz0 hz1 hz2 hzs hsz v n xs (ka.ev hs) hown ⟨g, p, none⟩ m c news (ka.ev hx) hl (fun j u hu => by rw [Addr.add_mid]; exact hr j u hu) h1
    (by simpa [maxLen] using h63) hbytes hbase fun v' w' a1 a2 _ a3 => XG ka hd hn (h v' w' a1 a2 a3)⟩
end
theorem Vs.one {w : World} {b o : Nat} {u : Value} (h : w.cell? ⟨b, o, none⟩ = some u) : Vs w (some ⟨b, o, none⟩) 1 [u] := by
  refine ⟨rfl, fun _ => ⟨b, o, rfl, fun i x hx => ?_⟩⟩
  match i, hx with
  | 0, hx => simp at hx; subst hx; exact h
theorem run_loadMid {P : Program} {W : World} {o : Oper} {ρ : Operand → Value} {b off : Nat} (ty : TypeId) (x : Operand) (ho : o.op = .load ty x) (hx : ρ x = .pointer (some ⟨b, off, none⟩)) (cs : List Value) (d : TypeDesc) (hc : W.rangeAt b off cs)
    (hu : P.underlying ty = some d) (hd : d.isRow = true) (hi : (P.info? ty).map (·.size) = some cs.length) : (execOp ρ o).run P W = .ok (.value (.agg cs.toArray)) W := by
  unfold execOp
  simp only [ho, hx, Sem.run_bind, run_loadAt_mid W b off ty cs d hc hu hd hi, Result.andThen_ok, Sem.run_pure]
theorem Vi {w0 w w' : World} {v : Value} {B : Nat} {e : TypeId} {size n : Nat} {xs : List Value} (hb : Below B w0 w) (hg : w.grownBy w' v.ownBlock) (hown : w.ownsRow B e size v n xs) (hB : B ≤ w.heap.size) : Below B w0 w' :=
  hb.grown hg hB fun k hk => (hown.lt k hk).1
theorem Y8 {P : Program} {Q : Exit → Act → World → Prop} {N : Nat} {L : Slots} {w : World} {ops : Array Oper} {rest : List Oper} {o : Oper} {d x : Nat} (ty : TypeId) (b off : Nat) (cs : List Value) (de : TypeDesc) (hc : w.rangeAt b off cs)
    (hu : P.underlying ty = some de) (hde : de.isRow = true) (hi : (P.info? ty).map (·.size) = some cs.length) (hd : o.dst = some d) (hg : o.guard = none) (ho : o.op = .load ty (.tmp x)) (hx : lk L x = some (.pointer (some ⟨b, off, none⟩))) (hn : Nat.blt d N = true)
    (h : KL P ops Q rest N ((d, .agg cs.toArray) :: L) w) : KL P ops Q (o :: rest) N L w :=
  kl_run hd hg (by simp [ho, okop, okx, hx, hn]) (run_loadMid (ρ := ev L) ty (.tmp x) ho (by simp [ev, hx]) cs de hc hu hde hi) h
theorem sliceInfo : (Try.prog.info? 32).map (fun i => (i.zero, i.size, i.bytes)) = some (some (.slice none 0 0), 1, 24) := by kernel_rfl
theorem own_mid {w : World} {base : Nat} {e : TypeId} {size n c g : Nat} {xs : List Value} (h : w.ownsRow base e size (.slice (some ⟨g, 0, none⟩) n c) n xs) (k : Nat) (cs : List Value) (hcs : ∀ j u, cs[j]? = some u → xs[k * size + j]? = some u) : w.rangeAt g (k * size) cs := by
  intro j u hu
  rcases h.2 with ⟨h1, _⟩ | ⟨g', cap, cur, hv, _, hh, _, _, _, ht⟩
  · cases h1
  · injection hv with e1 e2 e3
    injection e1 with e1
    injection e1 with e1
    subst e1
    have hx := hcs j u hu
    rw [← ht, List.getElem?_take] at hx
    split at hx
    · refine Z4 hh ?_
      simpa using hx
    · cases hx
theorem YC {w w' : World} {b o : Nat} {cs : List Value} (h : w.rangeAt b o cs) (hb : Below w.heap.size w w') : w'.rangeAt b o cs := fun j v hv => Keeps.of_below hb _ _ (h j v hv)
theorem rangeAt_new (w : World) (cs : Array Value) (t : TypeId) (g : Nat) (hg : g = w.heap.size) : (w.alloc (.cells cs t)).rangeAt g 0 cs.toList := by
  subst hg
  intro j v hv
  rw [Nat.zero_add]
  refine cell_new w cs t j ?_
  simpa using hv
end Go.Proofs.Ytkncomkncfcecaa
set_option linter.unusedVariables false
set_option linter.unusedSimpArgs false
namespace Go.Proofs.Ytkncomkncfcecaa
open Go.RowKit
attribute [local go_sem] Y1 Yl Yp ZT Yy Yo ZI ZO Yi ZN ZH ZU Ya
structure Act6 where
  kind : Int
  n : Int
  b : List UInt8
  f : ActV
def Act6At (w : World) (g o : Nat) (a : Act6) : Prop :=
  w.cell? ⟨g, o, none⟩ = some (.int .i64 a.kind) ∧ w.cell? ⟨g, o + 1, none⟩ = some (.int .i64 a.n) ∧ (∃ B m c, w.cell? ⟨g, o + 2, none⟩ = some (.slice B m c) ∧ Bs w B m a.b ∧ m ≤ c ∧ c ≤ 9223372036854775807) ∧ ActAt w g (o + 3) a.f
def Acts6 (w : World) (A : Option Addr) (n : Nat) (l : List Act6) : Prop :=
  l.length = n ∧ (0 < n → ∃ g o, A = some ⟨g, o, none⟩ ∧ ∀ i a, l[i]? = some a → Act6At w g (o + i * 8) a)
theorem Act6At.keep {w w' : World} {g o : Nat} {a : Act6} (h : Act6At w g o a) (hk : Keeps w w') : Act6At w' g o a := by
  obtain ⟨h1, h2, ⟨B, m, c, h5, h6, h7⟩, h8⟩ := h
  exact ⟨hk _ _ h1, hk _ _ h2, ⟨B, m, c, hk _ _ h5, h6.keep hk, h7⟩, h8.keep hk⟩
theorem Acts6.keep {w w' : World} {A : Option Addr} {n : Nat} {l : List Act6} (h : Acts6 w A n l) (hk : Keeps w w') : Acts6 w' A n l :=
  ⟨h.1, fun hn => by
    obtain ⟨g, o, e, hc⟩ := h.2 hn
    exact ⟨g, o, e, fun i a ha => (hc i a ha).keep hk⟩⟩
theorem Acts6.next {w : World} {A : Option Addr} {n k : Nat} {l : List Act6} (h : Acts6 w A n l) (hk : k < n) :
    ∃ g o a, A = some ⟨g, o, none⟩ ∧ Act6At w g (o + k * 8) a ∧ Hid (l.take (k + 1) = l.take k ++ [a]) ∧ Hid (l[k]? = some a) := by
  obtain ⟨g, o, e, hc⟩ := h.2 (by omega)
  have hl : k < l.length := by rw [h.1]; exact hk
  exact ⟨g, o, l[k], e, hc k _ (List.getElem?_eq_getElem hl), Xy hl, List.getElem?_eq_getElem hl⟩
def few6 (l : List Act6) : Bool := l.all fun a => decide (a.b.length ≤ 200) && decide (a.f.b.length ≤ 40)
set_option maxRecDepth 100000 in
set_option maxHeartbeats 1000000 in
theorem few6_any (A : Option Addr) (n c : Nat) (l : List Act6) (w : World) (hA : Acts6 w A n l) (hn : n ≤ c) (hc : c ≤ 9223372036854775807) :
    Calls Try.prog 29 #[.slice A n c] w fun e w' => e = .returned (.bool (few6 l && decide (n ≤ 60))) ∧ w = w' := by
  have hl := Lib.hid hA.1
  refine ZZ Try.func29 rfl Try.ntmps29 rfl [(0, .slice A n c)] rfl ?_
  repeat (first | refine Zv ?_ | refine Zc ?_ | refine Zq ?_ | refine Zm ?_ | (first | refine Zb rfl rfl (.inl rfl) rfl rfl ?_ | refine Zb rfl rfl (.inr rfl) rfl rfl ?_ | refine Za rfl rfl (.inl rfl) rfl ?_ | refine Za rfl rfl (.inr rfl) rfl ?_) | ((first | refine Zn rfl rfl rfl fun K hK => ?_ | refine Zh rfl rfl rfl fun K hK => ?_); go_simp; (try go_bits); (first | refine hK _ _ ?_ | refine hK _ ?_); clear hK K))
  refine KW.less [0, 3] ?_
  simp only [nrm, lk, Nat.reduceBEq, cond_true, cond_false]
  refine Zs ?_
  refine Yw (fun mm L W => ∃ k, k ≤ n ∧ mm = n - k ∧ w = W ∧ Hid (few6 (l.take k) = true) ∧ L = [(0, .slice A n c), (3, .int .i64 (k : Int))]) ⟨0, by omega, rfl, rfl, rfl, rfl⟩ ?_
  rintro mm L W ⟨k, hk, rfl, rfl, hf, rfl⟩
  by_cases hlt : k < n
  case neg =>
    obtain rfl : n = k := by omega
    rw [List.take_of_length_le (by rw [hl.out]; exact Nat.le_refl _)] at hf
    have t1 : decide ((n : Int) < (n : Int)) = false := by simp
    have t1n : decide (n < n) = false := by simp
    obtain ⟨bb, hbb⟩ : ∃ bb, decide (n ≤ 60) = bb := ⟨_, rfl⟩
    have t2 : decide ((n : Int) ≤ 60) = bb := by rw [← hbb, decide_eq_decide]; omega
    have t2n := hbb
    clear hbb hlt
    repeat (first | refine Zv ?_ | refine Zs ?_ | refine Zu ?_ | refine Zc ?_ | refine Zq ?_ | refine Zm ?_ | refine Zp ?_ | refine Zw ?_ | refine Zf ?_ | refine Zd rfl ?_ | refine Zj rfl ?_ | refine Ze ?_ | refine Z3 ?_ | refine Zk ?_ | refine Zg ?_ | refine Zi ?_ | refine Zy rfl ?_ | refine Zx rfl ?_ | refine Zz rfl rfl ?_ | refine Zt rfl rfl rfl rfl ?_ | refine Zr rfl rfl rfl ?_ | (first | refine Zb rfl rfl (.inl rfl) rfl rfl ?_ | refine Zb rfl rfl (.inr rfl) rfl rfl ?_ | refine Za rfl rfl (.inl rfl) rfl ?_ | refine Za rfl rfl (.inr rfl) rfl ?_) | ((first | refine Zn rfl rfl rfl fun K hK => ?_ | refine Zh rfl rfl rfl fun K hK => ?_); go_simp; (try go_bits); (first | refine hK _ _ ?_ | refine hK _ ?_); clear hK K))
    exact ZE rfl rfl ⟨by rw [hf.out, t2n, Bool.true_and], rfl⟩
  have t1 : decide ((k : Int) < (n : Int)) = true := by rw [decide_eq_true_eq]; omega
  have t1n : decide (k < n) = true := decide_eq_true hlt
  have u0 : (0 : Int) ≤ k := by omega
  have u1 : (k : Int) < n := by omega
  obtain ⟨g, o, a, rfl, hat, ht, hx⟩ := hA.next hlt
  obtain ⟨_, _, ⟨B, m, d, c2, hB, hm, hd⟩, _, _, _, _, B', m', d', c7, hB', hm', hd'⟩ := hat
  have hbl := Lib.hid hB.len
  have hbl' := Lib.hid hB'.len
  have c7' : w.cell? ⟨g, o + k * 8 + 7, none⟩ = some (.slice B' m' d') := c7
  have HMD : Hid (m ≤ d ∧ d ≤ 9223372036854775807 ∧ m' ≤ d' ∧ d' ≤ 9223372036854775807) := ⟨hm, hd, hm', hd'⟩
  have m0 : (m : Int) ≤ 9223372036854775807 := by omega
  have m1 : (m' : Int) ≤ 9223372036854775807 := by omega
  clear hB hB' hm hd hm' hd'
  have HK := Lib.hid hlt
  clear hlt
  by_cases d1 : 200 < m
  · have q1 : decide ((200 : Int) < (m : Int)) = true := by rw [decide_eq_true_eq]; omega
    have q1n : decide (200 < m) = true := decide_eq_true d1
    have hff : Hid (few6 l = false) := by
      show _ = _
      unfold few6
      rw [List.all_eq_false]
      exact ⟨a, List.mem_of_getElem? hx.out, by simp; intro h; rw [hbl.out] at h; omega⟩
    clear d1
    repeat (first | refine Zv ?_ | refine Zs ?_ | refine Zu ?_ | refine Zc ?_ | refine Zq ?_ | refine Zm ?_ | refine Zp ?_ | refine Zw ?_ | refine Zf ?_ | refine Zd rfl ?_ | refine Zj rfl ?_ | refine Ze ?_ | refine Z3 ?_ | refine Zk ?_ | refine Zg ?_ | refine Zi ?_ | refine Zy rfl ?_ | refine Zx rfl ?_ | refine Zz rfl rfl ?_ | refine Zt rfl rfl rfl rfl ?_ | refine Zr rfl rfl rfl ?_ | (first | refine Zb rfl rfl (.inl rfl) rfl rfl ?_ | refine Zb rfl rfl (.inr rfl) rfl rfl ?_ | refine Za rfl rfl (.inl rfl) rfl ?_ | refine Za rfl rfl (.inr rfl) rfl ?_) | ((first | refine Zn rfl rfl rfl fun K hK => ?_ | refine Zh rfl rfl rfl fun K hK => ?_); go_simp; (try go_bits); (first | refine hK _ _ ?_ | refine hK _ ?_); clear hK K))
    exact ZE rfl rfl ⟨by rw [hff.out, Bool.false_and], rfl⟩
  have q1 : decide ((200 : Int) < (m : Int)) = false := by rw [decide_eq_false_iff_not]; omega
  have q1n : decide (200 < m) = false := decide_eq_false d1
  by_cases d2 : 40 < m'
  · have q2 : decide ((40 : Int) < (m' : Int)) = true := by rw [decide_eq_true_eq]; omega
    have q2n : decide (40 < m') = true := decide_eq_true d2
    have hff : Hid (few6 l = false) := by
      show _ = _
      unfold few6
      rw [List.all_eq_false]
      exact ⟨a, List.mem_of_getElem? hx.out, by simp; intro _; rw [hbl'.out]; omega⟩
    clear d1 d2
    repeat (first | refine Zv ?_ | refine Zs ?_ | refine Zu ?_ | refine Zc ?_ | refine Zq ?_ | refine Zm ?_ | refine Zp ?_ | refine Zw ?_ | refine Zf ?_ | refine Zd rfl ?_ | refine Zj rfl ?_ | refine Ze ?_ | refine Z3 ?_ | refine Zk ?_ | refine Zg ?_ | refine Zi ?_ | refine Zy rfl ?_ | refine Zx rfl ?_ | refine Zz rfl rfl ?_ | refine Zt rfl rfl rfl rfl ?_ | refine Zr rfl rfl rfl ?_ | (first | refine Zb rfl rfl (.inl rfl) rfl rfl ?_ | refine Zb rfl rfl (.inr rfl) rfl rfl ?_ | refine Za rfl rfl (.inl rfl) rfl ?_ | refine Za rfl rfl (.inr rfl) rfl ?_) | ((first | refine Zn rfl rfl rfl fun K hK => ?_ | refine Zh rfl rfl rfl fun K hK => ?_); go_simp; (try go_bits); (first | refine hK _ _ ?_ | refine hK _ ?_); clear hK K))
    exact ZE rfl rfl ⟨by rw [hff.out, Bool.false_and], rfl⟩
  have q2 : decide ((40 : Int) < (m' : Int)) = false := by rw [decide_eq_false_iff_not]; omega
  have q2n : decide (40 < m') = false := decide_eq_false d2
  have hf' : Hid (few6 (l.take (k + 1)) = true) := by
    show _ = _
    have h1 := hf.out
    unfold few6 at h1 ⊢
    rw [ht.out, List.all_append, h1]
    simp
    rw [hbl.out, hbl'.out]; omega
  obtain ⟨nk, hnk⟩ : ∃ nk, k + 1 = nk := ⟨_, rfl⟩
  have k1 : (k : Int) + 1 = (nk : Int) := by omega
  have k2 : (0 : Int) ≤ nk := by omega
  have k3 : (nk : Int) ≤ 9223372036854775807 := by omega
  rw [hnk] at hf'
  have HNK := Lib.hid hnk
  clear hnk d1 d2 ht hx
  repeat (first | refine Zv ?_ | refine Zs ?_ | refine Zc ?_ | refine Zq ?_ | refine Zm ?_ | refine Zp ?_ | refine Zy rfl ?_ | refine Zx rfl ?_ | refine Zu ?_ | refine Zz rfl rfl ?_ | refine Zt rfl rfl rfl rfl ?_ | (first | refine Zb rfl rfl (.inl rfl) rfl rfl ?_ | refine Zb rfl rfl (.inr rfl) rfl rfl ?_ | refine Za rfl rfl (.inl rfl) rfl ?_ | refine Za rfl rfl (.inr rfl) rfl ?_) | ((first | refine Zn rfl rfl rfl fun K hK => ?_ | refine Zh rfl rfl rfl fun K hK => ?_); go_simp; (try go_bits); (first | refine hK _ _ ?_ | refine hK _ ?_); clear hK K))
  refine Yk (n - nk) [0, 3] (by have := HNK.out; have := HK.out; omega) ?_
  exact ⟨nk, by have := HNK.out; have := HK.out; omega, rfl, rfl, hf', rfl⟩
end Go.Proofs.Ytkncomkncfcecaa
set_option linter.unusedVariables false
set_option linter.unusedSimpArgs false
namespace Go.Proofs.Ytkncomkncfcecaa
open Go.ChangeShapes Go.WideShapes Go.ChangeAt Go.RowKit Go.Deep
section
variable {H : Type} {enc : TypeId × Value → H} {P : Program} {W : World}
theorem open_acts6 {t e : TypeId} {f0 f1 f2 f3 : Field} {g0 g1 g2 g3 g4 : Field} {be : TypeId} {v : Value} {d : DataW H} {p : List MemPlace} {b : Nat} {r : Reach} {h63 : Bool} (ht : P.underlying t = some (.slice e)) (he : P.underlying e = some (.struct #[f0, f1, f2, f3])) (ce : P.cellsOf e = 8)
    (hs : P.underlying f3.type = some (.struct #[g0, g1, g2, g3, g4])) (o0 : f0.offset = 0) (o1 : f1.offset = 1) (o2 : f2.offset = 2) (o3 : f3.offset = 3) (c0 : P.cellsOf f0.type = 1) (c1 : P.cellsOf f1.type = 1) (c2 : P.cellsOf f2.type = 1) (c3 : P.cellsOf f3.type = 5)
    (p0 : g0.offset = 0) (p1 : g1.offset = 1) (p2 : g2.offset = 2) (p3 : g3.offset = 3) (p4 : g4.offset = 4) (d0 : P.cellsOf g0.type = 1) (d1 : P.cellsOf g1.type = 1) (d2 : P.cellsOf g2.type = 1) (d3 : P.cellsOf g3.type = 1) (d4 : P.cellsOf g4.type = 1)
    (u0 : P.underlying f0.type = some (.int .i64)) (u1 : P.underlying f1.type = some (.int .i64)) (u2 : P.underlying f2.type = some (.slice be)) (ub : P.underlying be = some (.int .u8)) (cb : P.cellsOf be = 1)
    (v0 : P.underlying g0.type = some (.int .i64)) (v1 : P.underlying g1.type = some (.int .i64)) (v2 : P.underlying g2.type = some (.int .i64)) (v3 : P.underlying g3.type = some (.int .i64)) (v4 : P.underlying g4.type = some (.slice be))
    (hval : Value.okWide P W r b t v) (h : DataW.Trod enc P W 0 (fun _ => true) h63 t v d p) :
    ∃ A n c l, v = .slice A n c ∧ Acts6 W A n l ∧ n ≤ c ∧ c ≤ 9223372036854775807 := by
  obtain ⟨A, n, c, rfl⟩ := okWide_slice ht hval
  obtain ⟨fuel, hf⟩ := h
  rcases open_slice ht hf with ⟨hcs, _⟩ | ⟨a, len, cap, m, k, D, Pl, hcs, _, hl, hm, hmm, _, hx⟩
  · simp [Value.cells] at hcs
    obtain ⟨rfl, rfl, rfl⟩ := hcs
    exact ⟨none, 0, 0, [], rfl, ⟨rfl, fun h => absurd h (by omega)⟩, Nat.le_refl _, by omega⟩
  · simp [Value.cells] at hcs
    obtain ⟨rfl, rfl, rfl⟩ := hcs
    simp only [if_true] at hmm
    have hrow0 : 0 < n → a.spot = none := by
      intro hi
      obtain ⟨cs', h1, h2⟩ := hx 0 (by omega)
      rw [ce] at h1
      obtain ⟨_, hlen, hcell⟩ := World.cells?_some h1
      have e0 := hcell 0 (by omega)
      have h0 : (a.add (0 * 8)).add 0 = a := by simp [Addr.add]
      rw [h0] at e0
      rw [List.getElem?_eq_getElem (by omega)] at e0
      exact World.cell?_spot e0
    have hrow : ∀ i, i < n → ∃ x : Act6, Act6At W a.block (a.off + i * 8) x := by
      intro i hi
      have hspot := hrow0 (by omega)
      obtain ⟨cs', h1, h2⟩ := hx i (by omega)
      rw [ce] at h1
      obtain ⟨_, hlen, hcell⟩ := World.cells?_some h1
      obtain ⟨xs, k2, hk2, hxy, _, hxl, hfs⟩ := DataW.trod_struct he h2
      match xs, hxl, cs', hlen with
      | [y0, y1, y2, y3], _, [z0, z1, z2, z3, z4, z5, z6, z7], _ =>
        have q0 := hfs 0 f0 rfl
        have q1 := hfs 1 f1 rfl
        have q2 := hfs 2 f2 rfl
        have q3 := hfs 3 f3 rfl
        simp [o0, o1, o2, o3, c0, c1, c2, c3] at q0 q1 q2 q3
        have e0 := hcell 0 (by omega)
        have e1 := hcell 1 (by omega)
        have e2 := hcell 2 (by omega)
        have e3 := hcell 3 (by omega)
        have e4 := hcell 4 (by omega)
        have e5 := hcell 5 (by omega)
        have e6 := hcell 6 (by omega)
        have e7 := hcell 7 (by omega)
        obtain ⟨ab, ao, asp⟩ := a
        dsimp only at hspot
        subst hspot
        rw [Addr.add_lit, Addr.add_lit] at e0 e1 e2 e3 e4 e5 e6 e7
        obtain ⟨i0, w0, _⟩ := DataW.trod_int u0 q0
        obtain ⟨i1, w1, _⟩ := DataW.trod_int u1 q1
        obtain ⟨B, mm, cc, l, w2, hB, hmc, hc9⟩ := WS u2 ub cb q2
        simp at w0 w1
        subst w0; subst w1; subst w2
        obtain ⟨xs2, k3, hk3, hxy2, _, hxl2, hgs⟩ := DataW.trod_struct hs q3
        match xs2, hxl2 with
        | [y4, y5, y6, y7, y8], _ =>
          have r0 := hgs 0 g0 rfl
          have r1 := hgs 1 g1 rfl
          have r2 := hgs 2 g2 rfl
          have r3 := hgs 3 g3 rfl
          have r4 := hgs 4 g4 rfl
          simp [p0, p1, p2, p3, p4, d0, d1, d2, d3, d4] at r0 r1 r2 r3 r4
          obtain ⟨j0, x0, _⟩ := DataW.trod_int v0 r0
          obtain ⟨j1, x1, _⟩ := DataW.trod_int v1 r1
          obtain ⟨j2, x2, _⟩ := DataW.trod_int v2 r2
          obtain ⟨j3, x3, _⟩ := DataW.trod_int v3 r3
          obtain ⟨B', mm', cc', l', x4, hB', hmc', hc9'⟩ := WS v4 ub cb r4
          simp at x0 x1 x2 x3
          subst x0; subst x1; subst x2; subst x3; subst x4
          exact ⟨⟨i0, i1, l, ⟨j0, j1, j2, j3, l'⟩⟩, by simpa using e0, by simpa using e1, ⟨B, mm, cc, by simpa using e2, hB, hmc, hc9⟩, by simpa using e3, by simpa [Nat.add_assoc] using e4, by simpa [Nat.add_assoc] using e5, by simpa [Nat.add_assoc] using e6, B', mm', cc', by simpa [Nat.add_assoc] using e7, hB', hmc', hc9'⟩
    haveI : Inhabited Act6 := ⟨⟨0, 0, [], ⟨0, 0, 0, 0, []⟩⟩⟩
    obtain ⟨F, hF⟩ := choose_lt hrow
    refine ⟨some a, n, c, (List.range n).map F, rfl, ⟨by simp, fun hn => ?_⟩, hl, by simpa [maxLen] using hm⟩
    have hs := hrow0 hn
    obtain ⟨ab, ao, asp⟩ := a
    dsimp only at hs
    subst hs
    refine ⟨ab, ao, rfl, fun i x hix => ?_⟩
    simp only [List.getElem?_map, Option.map_eq_some_iff] at hix
    obtain ⟨k3, hk3, rfl⟩ := hix
    obtain ⟨h1, h2⟩ := List.getElem?_eq_some_iff.1 hk3
    have hik : i < n := by simpa using h1
    have hki : i = k3 := by simpa using h2
    subst hki
    exact hF i hik
end
end Go.Proofs.Ytkncomkncfcecaa
set_option linter.unusedVariables false
set_option linter.unusedSimpArgs false
namespace Go.Proofs.Ytkncomkncfcecaa
open Go.RowKit
theorem spend_live (f : FlashSt) (hl : f.left = 0) : spendF f = { f with done := wrap64 (f.done + 1) } := by unfold spendF; rw [if_neg (by omega)]
theorem lay_whole (mask tb : List UInt8) (off n : Nat) (S : List UInt8) (i : Nat) (hi : i < S.length) :
    (layS true mask tb off n S).getD i 0 = if off ≤ i ∧ i < off + n then tb.getD (i - off) 0 else S.getD i 0 := by
  rw [layS_getD _ _ _ _ _ _ _ hi]
  have : mByte true mask (i - off) = 255 := rfl
  rw [this, layB_all]
theorem fits_iff (b : List UInt8) (off : Nat) (S : List UInt8) (n : Nat) : fits b off S n = true ↔ ∀ k, k < n → (pad b).getD k 0 &&& ~~~(S.getD (off + k) 0) = 0 := by
  induction n with
  | zero => exact ⟨fun _ k hk => absurd hk (by omega), fun _ => rfl⟩
  | succ n ih =>
    simp only [fits, Bool.and_eq_true, beq_iff_eq, ih]
    constructor
    · rintro ⟨h1, h2⟩ k hk
      by_cases he : k = n
      · rw [he]; exact h2
      · exact h1 k (by omega)
    · intro h
      exact ⟨fun k hk => h k (by omega), h n (by omega)⟩
def doneP (f : FlashSt) (off : Nat) (b : List UInt8) : FlashSt := ⟨0, wrap64 (f.done + 1), f.mask, false, layS true f.mask (pad b) off 16 f.S⟩
def doneE (f : FlashSt) (k : Nat) : FlashSt := ⟨0, wrap64 (f.done + 1), f.mask, false, layS true f.mask (List.replicate 1024 255) (k * 1024) 1024 f.S⟩
theorem prog_ok (f : FlashSt) (k q : Nat) (b : List UInt8) (hd : f.dead = false) (hl : f.left = 0) (hk : k < 6) (hq : q < 64) (hb : b.length ≤ 16) (hf : fits b (k * 1024 + q * 16) f.S 16 = true) :
    progF f k q b = (0, doneP f (k * 1024 + q * 16) b) := by
  unfold progF
  rw [hd, if_neg (by simp), if_neg (by omega), if_neg (by omega), Int.toNat_natCast, Int.toNat_natCast, hf, if_neg (by simp), spend_live f hl]
  dsimp only
  rw [hd, hl, if_neg (by simp)]
  rfl
theorem erase_ok (f : FlashSt) (k : Nat) (hd : f.dead = false) (hl : f.left = 0) (hk : k < 6) : eraseF f k = (0, doneE f k) := by
  unfold eraseF
  rw [hd, if_neg (by simp), if_neg (by omega), Int.toNat_natCast, spend_live f hl]
  dsimp only
  rw [hd, hl, if_neg (by simp)]
  rfl
theorem doneP_at (f : FlashSt) (off : Nat) (b : List UInt8) (i : Nat) (hi : i < f.S.length) : (doneP f off b).S.getD i 0 = if off ≤ i ∧ i < off + 16 then (pad b).getD (i - off) 0 else f.S.getD i 0 := lay_whole _ _ _ _ _ _ hi
theorem doneE_at (f : FlashSt) (k : Nat) (i : Nat) (hi : i < f.S.length) : (doneE f k).S.getD i 0 = if k * 1024 ≤ i ∧ i < k * 1024 + 1024 then 255 else f.S.getD i 0 := by
  have := lay_whole f.mask (List.replicate 1024 255) (k * 1024) 1024 f.S i hi
  unfold doneE
  dsimp only
  rw [this]
  by_cases h : k * 1024 ≤ i ∧ i < k * 1024 + 1024
  · rw [if_pos h, if_pos h, List.getD_eq_getElem?_getD, List.getElem?_replicate, if_pos (by omega)]; rfl
  · rw [if_neg h, if_neg h]
theorem doneP_len (f : FlashSt) (off : Nat) (b : List UInt8) : (doneP f off b).S.length = f.S.length := by unfold doneP; dsimp only; rw [ZC]
theorem doneE_len (f : FlashSt) (k : Nat) : (doneE f k).S.length = f.S.length := by unfold doneE; dsimp only; rw [ZC]
theorem newF_len : newF.S.length = 6144 := by
  show (List.replicate 6144 (255 : UInt8)).length = 6144
  rw [List.length_replicate]
theorem newF_at (i : Nat) (hi : i < 6144) : newF.S.getD i 0 = 255 := by
  unfold newF
  dsimp only
  rw [List.getD_eq_getElem?_getD, List.getElem?_replicate, if_pos hi]
  rfl
theorem Xp (f : FlashSt) (k : Nat) (hk : k < 6) (hS : f.S.length = 6144) : (readF f k).length = 1024 := by
  unfold readF; rw [if_neg (by omega), List.length_take, List.length_drop, hS, Int.toNat_natCast]; omega
theorem Wl (f : FlashSt) (k : Nat) (hk : k < 6) (hS : f.S.length = 6144) (i : Nat) (hi : i < 1024) : (readF f k)[i]? = some (f.S.getD (k * 1024 + i) 0) := by
  unfold readF
  rw [if_neg (by omega), Int.toNat_natCast, List.getElem?_take, if_pos hi, List.getElem?_drop, List.getElem?_eq_getElem (by omega), List.getD_eq_getElem?_getD, List.getElem?_eq_getElem (by omega)]
  rfl
theorem pad_at (b : List UInt8) (k : Nat) (hk : k < 16) (hb : b.length ≤ 16) : (pad b).getD k 0 = if k < b.length then b.getD k 0 else 255 := by
  unfold pad
  rw [List.getD_eq_getElem?_getD]
  by_cases h : k < b.length
  · rw [if_pos h, List.getElem?_append_left h, List.getD_eq_getElem?_getD]
  · rw [if_neg h, List.getElem?_append_right (by omega), List.getElem?_replicate, if_pos (by omega)]; rfl
theorem fits_blank (b : List UInt8) (off : Nat) (S : List UInt8) (h : ∀ k, k < 16 → S.getD (off + k) 0 = 255) : fits b off S 16 = true := by
  rw [fits_iff]
  intro k hk
  rw [h k hk, show (~~~(255 : UInt8)) = 0 by decide, UInt8.and_zero]
end Go.Proofs.Ytkncomkncfcecaa
