/- Arguments '[]Kept' and '[][]Kept', opened. A cut between two pieces of code: what stands behind the first, whatever way it took. No program in sight. A reader beside a row of one's own; a call of a method's value. -/
import Derived.Test.YtcpifcdndhhmgaaFlashPlain
import Derived.Test.YtcpifcdndhhmgaaRetMem
import Derived.Deep.Slices
import Derived.Test.YtcpifcdndhhmgaaKn
import Derived.Test.YtcpifcdndhhmgaaRd
import Derived.Test.YtcpifcdndhhmgaaKnV
set_option linter.unusedVariables false
set_option linter.unusedSimpArgs false
namespace Go.Proofs.Ytcpifcdndhhmgaa
open Go.ChangeShapes Go.WideShapes Go.ChangeAt Go.RowKit Go.Deep
/-- a row of what is kept, each value of its own kind's size -/
structure KepW (W : World) (A : Option Addr) (n : Nat) (l : List KepS) : Prop where
  row : KeS W A n l
  kind : ∀ k ∈ l, I64 k.kind
  val : ∀ k ∈ l, I64 k.value
theorem KepW.keep {W W' : World} {A : Option Addr} {n : Nat} {l : List KepS} (h : KepW W A n l) (hk : Keeps W W') : KepW W' A n l := ⟨h.row.keep hk, h.kind, h.val⟩
/-- a row of such rows -/
structure KepWs (W : World) (A : Option Addr) (n : Nat) (ls : List (List KepS)) : Prop where
  len : ls.length = n
  at_ : 0 < n → ∃ g o, A = some ⟨g, o, none⟩ ∧ ∀ (i : Nat) (l : List KepS), ls[i]? = some l → ∃ B m c, W.cell? ⟨g, o + i, none⟩ = some (.slice B m c) ∧ KepW W B m l ∧ m ≤ c ∧ c ≤ 9223372036854775807
theorem KepWs.keep {W W' : World} {A : Option Addr} {n : Nat} {ls : List (List KepS)} (h : KepWs W A n ls) (hk : Keeps W W') : KepWs W' A n ls :=
  ⟨h.len, fun hn => by
    obtain ⟨g, o, e, hc⟩ := h.at_ hn
    refine ⟨g, o, e, fun i l hl => ?_⟩
    obtain ⟨B, m, c, h1, h2, h3⟩ := hc i l hl
    exact ⟨B, m, c, hk _ _ h1, h2.keep hk, h3⟩⟩
section
variable {H : Type} {enc : TypeId × Value → H} {P : Program} {W : World}
theorem kepts_of_trod {t e : TypeId} {f0 f1 f2 : Field} {v : Value} {y : DataW H × List MemPlace} {fuel : Nat} {h63 : Bool} (ht : P.underlying t = some (.slice e)) (he : P.underlying e = some (.struct #[f0, f1, f2])) (ce : P.cellsOf e = 3)
    (o0 : f0.offset = 0) (o1 : f1.offset = 1) (o2 : f2.offset = 2) (c0 : P.cellsOf f0.type = 1) (c1 : P.cellsOf f1.type = 1) (c2 : P.cellsOf f2.type = 1)
    (u0 : P.underlying f0.type = some .string) (u1 : P.underlying f1.type = some (.int .i64)) (u2 : P.underlying f2.type = some (.int .i64))
    (hf : DataW.trod enc P W 0 (fun _ => true) h63 fuel t [v] = some y) : ∃ A n c l, v = .slice A n c ∧ KepW W A n l ∧ n ≤ c ∧ c ≤ 9223372036854775807 := by
  rcases open_slice ht hf with ⟨hcs, _⟩ | ⟨a, n, c, m, k, D, Pl, hcs, _, hl, hm, hmm, _, hx⟩
  · simp at hcs
    exact ⟨none, 0, 0, [], hcs, ⟨KeS.nil _ _, by simp, by simp⟩, Nat.le_refl _, by omega⟩
  · simp at hcs
    simp only [if_true] at hmm
    have hrow0 : 0 < n → a.spot = none := by
      intro hi
      obtain ⟨cs', h1, h2⟩ := hx 0 (by omega)
      rw [ce] at h1
      obtain ⟨_, hlen, hcell⟩ := World.cells?_some h1
      have e0 := hcell 0 (by omega)
      have h0 : (a.add (0 * 3)).add 0 = a := by simp [Addr.add]
      rw [h0] at e0
      rw [List.getElem?_eq_getElem (by omega)] at e0
      exact World.cell?_spot e0
    have hrow : ∀ i, i < n → ∃ x : KepS, W.rangeAt a.block (a.off + i * 3) (kepC x) ∧ I64 x.kind ∧ I64 x.value := by
      intro i hi
      have hspot := hrow0 (by omega)
      obtain ⟨cs', h1, h2⟩ := hx i (by omega)
      rw [ce] at h1
      obtain ⟨_, hlen, hcell⟩ := World.cells?_some h1
      obtain ⟨xs, k2, hk2, hxy, _, hxl, hfs⟩ := DataW.trod_struct he h2
      match xs, hxl, cs', hlen with
      | [y0, y1, y2], _, [v0, v1, v2], _ =>
        have g0 := hfs 0 f0 rfl
        have g1 := hfs 1 f1 rfl
        have g2 := hfs 2 f2 rfl
        simp [o0, o1, o2, c0, c1, c2] at g0 g1 g2
        obtain ⟨s0, w0, _, q0⟩ := DataW.trod_string u0 g0
        obtain ⟨z1, w1, _, q1⟩ := DataW.trod_int u1 g1
        obtain ⟨z2, w2, _, q2⟩ := DataW.trod_int u2 g2
        simp at w0 w1 w2
        obtain ⟨l0, rfl⟩ := str_list s0
        subst w0; subst w1; subst w2
        refine ⟨⟨l0, z1, z2⟩, fun j u hu => ?_, i64_bounds q1, i64_bounds q2⟩
        obtain ⟨ab, ao, asp⟩ := a
        dsimp only at hspot
        subst hspot
        have hj : j < 3 := (List.getElem?_eq_some_iff.1 hu).1
        have e := hcell j (by omega)
        rw [Addr.add_lit, Addr.add_lit] at e
        rw [e]; exact hu
    haveI : Inhabited KepS := ⟨kepZ⟩
    obtain ⟨F, hF⟩ := choose_lt hrow
    refine ⟨some a, n, c, (List.range n).map F, hcs, ⟨⟨by simp, fun hn => ?_⟩, fun k hk => ?_, fun k hk => ?_⟩, hl, by simpa [maxLen] using hm⟩
    · have hs := hrow0 hn
      obtain ⟨ab, ao, asp⟩ := a
      dsimp only at hs
      subst hs
      refine ⟨ab, ao, rfl, fun i x hix => ?_⟩
      simp only [List.getElem?_map, Option.map_eq_some_iff] at hix
      obtain ⟨k3, hk3, rfl⟩ := hix
      obtain ⟨h1, h2⟩ := List.getElem?_eq_some_iff.1 hk3
      have hik : i < n := by simpa using h1
      have hki : i = k3 := by simpa using h2
      subst hki
      exact (hF i hik).1
    · obtain ⟨i, hi, rfl⟩ := List.mem_map.1 hk
      exact (hF i (List.mem_range.1 hi)).2.1
    · obtain ⟨i, hi, rfl⟩ := List.mem_map.1 hk
      exact (hF i (List.mem_range.1 hi)).2.2
theorem open_kepts {t e : TypeId} {f0 f1 f2 : Field} {v : Value} {d : DataW H} {p : List MemPlace} {b : Nat} {r : Reach} {h63 : Bool} (ht : P.underlying t = some (.slice e)) (he : P.underlying e = some (.struct #[f0, f1, f2])) (ce : P.cellsOf e = 3)
    (o0 : f0.offset = 0) (o1 : f1.offset = 1) (o2 : f2.offset = 2) (c0 : P.cellsOf f0.type = 1) (c1 : P.cellsOf f1.type = 1) (c2 : P.cellsOf f2.type = 1)
    (u0 : P.underlying f0.type = some .string) (u1 : P.underlying f1.type = some (.int .i64)) (u2 : P.underlying f2.type = some (.int .i64))
    (hval : Value.okWide P W r b t v) (h : DataW.Trod enc P W 0 (fun _ => true) h63 t v d p) : ∃ A n c l, v = .slice A n c ∧ KepW W A n l ∧ n ≤ c ∧ c ≤ 9223372036854775807 := by
  obtain ⟨A, n, c, rfl⟩ := okWide_slice ht hval
  obtain ⟨fuel, hf⟩ := h
  exact kepts_of_trod ht he ce o0 o1 o2 c0 c1 c2 u0 u1 u2 (by simpa [Value.cells] using hf)
theorem open_keptss {t s e : TypeId} {f0 f1 f2 : Field} {v : Value} {d : DataW H} {p : List MemPlace} {b : Nat} {r : Reach} {h63 : Bool} (ht : P.underlying t = some (.slice s)) (hs : P.underlying s = some (.slice e)) (cs1 : P.cellsOf s = 1) (he : P.underlying e = some (.struct #[f0, f1, f2])) (ce : P.cellsOf e = 3)
    (o0 : f0.offset = 0) (o1 : f1.offset = 1) (o2 : f2.offset = 2) (c0 : P.cellsOf f0.type = 1) (c1 : P.cellsOf f1.type = 1) (c2 : P.cellsOf f2.type = 1)
    (u0 : P.underlying f0.type = some .string) (u1 : P.underlying f1.type = some (.int .i64)) (u2 : P.underlying f2.type = some (.int .i64))
    (hval : Value.okWide P W r b t v) (h : DataW.Trod enc P W 0 (fun _ => true) h63 t v d p) : ∃ A n c ls, v = .slice A n c ∧ KepWs W A n ls ∧ n ≤ c ∧ c ≤ 9223372036854775807 := by
  obtain ⟨A, n, c, rfl⟩ := okWide_slice ht hval
  obtain ⟨fuel, hf⟩ := h
  rcases open_slice1 ht cs1 hf with ⟨hcs, _⟩ | ⟨a, len, cap, m, k, V, D, Pl, hcs, _, hl, hm, hmm, _, hx⟩
  · simp [Value.cells] at hcs
    obtain ⟨rfl, rfl, rfl⟩ := hcs
    exact ⟨none, 0, 0, [], rfl, ⟨rfl, fun h => absurd h (by omega)⟩, Nat.le_refl _, by omega⟩
  · simp [Value.cells] at hcs
    obtain ⟨rfl, rfl, rfl⟩ := hcs
    simp only [if_true] at hmm
    have hrow0 : 0 < n → a.spot = none := by
      intro hi
      have := (hx 0 (by omega)).1
      have h0 : a.add 0 = a := by simp [Addr.add]
      rw [h0] at this
      exact World.cell?_spot this
    have hrow : ∀ i, i < n → ∃ x : List KepS, ∃ B m c, W.cell? ⟨a.block, a.off + i, none⟩ = some (.slice B m c) ∧ KepW W B m x ∧ m ≤ c ∧ c ≤ 9223372036854775807 := by
      intro i hi
      have hspot := hrow0 (by omega)
      obtain ⟨h1, h2⟩ := hx i (by omega)
      obtain ⟨B, m', c', l, hv, hK, hmc, hc9⟩ := kepts_of_trod hs he ce o0 o1 o2 c0 c1 c2 u0 u1 u2 h2
      obtain ⟨ab, ao, asp⟩ := a
      dsimp only at hspot
      subst hspot
      rw [Addr.add_lit, hv] at h1
      exact ⟨l, B, m', c', h1, hK, hmc, hc9⟩
    haveI : Inhabited (List KepS) := ⟨[]⟩
    obtain ⟨F, hF⟩ := choose_lt hrow
    refine ⟨some a, n, c, (List.range n).map F, rfl, ⟨by simp, fun hn => ?_⟩, hl, by simpa [maxLen] using hm⟩
    have hs := hrow0 hn
    obtain ⟨ab, ao, asp⟩ := a
    dsimp only at hs
    subst hs
    refine ⟨ab, ao, rfl, fun i x hix => ?_⟩
    simp only [List.getElem?_map, Option.map_eq_some_iff] at hix
    obtain ⟨k3, hk3, rfl⟩ := hix
    obtain ⟨h1, h2⟩ := List.getElem?_eq_some_iff.1 hk3
    have hik : i < n := by simpa using h1
    have hki : i = k3 := by simpa using h2
    subst hki
    exact hF i hik
end
end Go.Proofs.Ytcpifcdndhhmgaa
set_option linter.unusedVariables false
set_option linter.unusedSimpArgs false
namespace Go.Proofs.Ytcpifcdndhhmgaa
open Go.RowKit
section
variable {P : Program} {Q : Exit → Act → World → Prop} {n : Nat} {L : Slots} {w : World}
def MidK (I : Slots → World → Prop) (n : Nat) (a : Act) (w : World) : Prop := ∃ L, I L w ∧ Kn n L a
theorem kw_cut {x y : Code} (I : Slots → World → Prop) (hx : KW P x (Exit.then (MidK I n) Q) n L w) (h : ∀ L w, I L w → KW P y Q n L w) : KW P (.seq x y) Q n L w := ⟨fun a k => wp_seq (Code.wp_mono (fun e a2 w2 hq => by
  cases e with
  | normal =>
    obtain ⟨L2, hI, k2⟩ := hq
    exact (h L2 w2 hI).h a2 k2
  | _ => exact hq) (hx.h a k))⟩
/-- the same where the first piece stands already alone -/
theorem kw_cutq {x y : Code} (I : Slots → World → Prop) (hx : KW P x (Exit.then (MidK I n) Q) n L w) (h : ∀ L w, I L w → KW P y Q n L w) : KW P x (Exit.then (y.wp P Q) Q) n L w := ⟨fun a k => Code.wp_mono (fun e a2 w2 hq => by
  cases e with
  | normal =>
    obtain ⟨L2, hI, k2⟩ := hq
    exact (h L2 w2 hI).h a2 k2
  | _ => exact hq) (hx.h a k)⟩
theorem kq_cut {I : Slots → World → Prop} (ts : List Nat) (hI : I (nrm L ts) w) : KQ (Exit.then (MidK I n) Q) .normal n L w := ⟨fun a k => ⟨_, hI, k.less ts⟩⟩
end
end Go.Proofs.Ytcpifcdndhhmgaa
set_option linter.unusedVariables false
set_option linter.unusedSimpArgs false
namespace Go.Proofs.Ytcpifcdndhhmgaa
open Go.RowKit
theorem tkN_i64 (t : List UInt8 × List UInt8 × Int) : I64 (tkN t) := by unfold I64 tkN wrap64; omega
/-- a reader at g, a row of one's own behind it -/
structure RdK (k : Bool) (w0 W : World) (g B : Nat) (l : List UInt8) (e : Int) (v : Value) (n : Nat) (ks : List KepS) : Prop where
  rd : RSt k W g l e
  own : W.ownsRow B 29 3 v n (flatK ks)
  gB : g < B
  BW : B ≤ W.heap.size
  ge : w0.heap.size ≤ g
  bel : Below w0.heap.size w0 W
section
variable {k : Bool} {w0 W W' : World} {g B n : Nat} {l l' : List UInt8} {e e' : Int} {v v' : Value} {ks : List KepS}
theorem RdK.ne (h : RdK k w0 W g B l e v n ks) : v.ownBlock = none ∨ v.ownBlock ≠ some g := by
  cases hv : v.ownBlock with
  | none => exact .inl rfl
  | some b => have := (h.own.lt b hv).1; have := h.gB; exact .inr (fun hh => by injection hh with hh; omega)
theorem RdK.read (h : RdK k w0 W g B l e v n ks) (hR : Rd k W W' [] g l' e') : RdK k w0 W' g B l' e' v n ks :=
  ⟨hR.rd, h.own.kept hR.grown h.ne, h.gB, Nat.le_trans h.BW hR.grown.size, h.ge, below_grown h.bel hR.grown h.bel.size h.ge⟩
theorem RdK.below (h : RdK k w0 W g B l e v n ks) (hb : Below W.heap.size W W') : RdK k w0 W' g B l e v n ks :=
  ⟨h.rd.below hb, own_below h.own hb, h.gB, Nat.le_trans h.BW hb.size, h.ge, below_then h.bel hb h.bel.size⟩
theorem RdK.other {b : Nat} (h : RdK k w0 W g B l e v n ks) (hg : W.grownBy W' (some b)) (hb : g < b) (hv : v.ownBlock ≠ some b) : RdK k w0 W' g B l e v n ks :=
  ⟨h.rd.other hg hb, h.own.kept hg (.inr hv), h.gB, Nat.le_trans h.BW hg.size, h.ge, below_grown h.bel hg h.bel.size (by have := h.ge; omega)⟩
theorem grownNone {a b : World} (h : a.grownBy b none) (r : Option Nat) : a.grownBy b r := ⟨h.os, h.tape, h.output, h.size, fun i hi _ => h.block i hi (by simp)⟩
theorem RdK.app (h : RdK k w0 W g B l e v n ks) {m : Nat} {qs : List KepS} (ho : W'.ownsRow B 29 3 v' m (flatK qs)) (hg : W.grownBy W' v.ownBlock) : RdK k w0 W' g B l e v' m qs := by
  cases hv : v.ownBlock with
  | none =>
    rw [hv] at hg
    exact ⟨h.rd.other (grownNone hg (some B)) h.gB, ho, h.gB, Nat.le_trans h.BW hg.size, h.ge, below_grown h.bel (grownNone hg (some B)) h.bel.size (by have := h.ge; have := h.gB; omega)⟩
  | some b =>
    rw [hv] at hg
    have hb := (h.own.lt b hv).1
    have := h.gB
    have := h.ge
    exact ⟨h.rd.other hg (by omega), ho, h.gB, Nat.le_trans h.BW hg.size, h.ge, below_grown h.bel hg h.bel.size (by omega)⟩
theorem RdK.fresh (h : RdK k w0 W g B l e v n ks) : v.ownBlock ≠ some W.heap.size := fun hh => by have := (h.own.lt _ hh).2; omega
end
section
variable {P : Program} {Q : Exit → Act → World → Prop} {n : Nat} {L : Slots} {w : World} {ops : Array Oper} {rest : List Oper} {o : Oper}
/-- a call of a method's value: what it is bound to comes first -/
theorem kl_callp {d t : Nat} {f : FuncId} {fn : Func} {c : Code} {xs : List Operand} {ts : Array TypeId} {pa : Array Value} (hd : o.dst = some d) (hg : o.guard = none) (ho : o.op = .call { callee := .value (.tmp t), args := xs.toArray, argTypes := ts })
    (ht : lk L t = some (.func (.func f) pa #[])) (hf : P.funcs[f]? = some fn) (hb : fn.body = some c) (hn : (fn.name == "runtime.NumGoroutine") = false) (hk : (xs.all (okx L) && Nat.blt d n) = true)
    (h : Calls P f (pa ++ (xs.map (ev L)).toArray) w fun e w' => ∃ v, e = .returned v ∧ KL P ops Q rest n ((d, v) :: L) w') : KL P ops Q (o :: rest) n L w := by
  have hk' := hk
  simp only [Bool.and_eq_true] at hk'
  have hv : ev L (.tmp t) = .func (.func f) pa #[] := by simp [ev, ht]
  refine kl_step hd hg ?_ fun K hK => ?_
  · simp only [ho, okop, Bool.and_eq_true]
    exact ⟨⟨hk'.1, by simp [okx, ht]⟩, hk'.2⟩
  · have he : execOp (ev L) o = callFunc f (pa ++ xs.toArray.map (ev L) ++ #[]) := by
      obtain ⟨dst, op, type, pos, after, guard⟩ := o
      subst ho
      simp only [execOp, resolve, hv]
      rfl
    rw [he, run_callFunc hf hb hn]
    simp only [Array.append_empty, List.map_toArray]
    refine Calls.mono h ?_
    rintro e w'' ⟨v, rfl, hv⟩
    exact ⟨v, rfl, hK _ _ hv⟩
end
theorem kq_ret3 {P : Program} {n : Nat} {L : Slots} {w : World} {fn : Func} {R : Ending → World → Prop} {t u x : Tmp} {v v' v2 : Value} (hr : fn.results = #[.tmp t, .tmp u, .tmp x]) (hv : lk L t = some v) (hv' : lk L u = some v') (hv2 : lk L x = some v2) (hR : R (.returned (.tuple #[v, v', v2])) w) : KQ (bodyPost P fn R) .ret n L w := ⟨fun a k =>
  bodyPost_ret (v := .tuple #[v, v', v2]) (by
    have h1 := k.all t v hv
    have h2 := k.all u v' hv'
    have h3 := k.all x v2 hv2
    rw [Array.getD_eq_getD_getElem?] at h1 h2 h3
    simp [results, hr, h1, h2, h3]) k.def_ hR⟩
def ParseKP (b : List UInt8) (w : World) (e : Ending) (w' : World) : Prop :=
  ∃ A n c, e = .returned (.tuple #[.int .i64 (parseK b).1, .slice A n c, .int .i64 (parseK b).2.2]) ∧ KeS w' A n (parseK b).2.1 ∧ TyK w' A ∧ n ≤ c ∧ c ≤ 9223372036854775807 ∧ Below w.heap.size w w'
theorem bodyK_many (seq : Int) (n : Nat) (l : List UInt8) (e : Int) (h : 24 < n) : bodyK seq n l e = finK seq (kepN 0 ([], l, if e = 0 then 4 else e)).1 (ended (kepN 0 ([], l, if e = 0 then 4 else e)).2.1 (kepN 0 ([], l, if e = 0 then 4 else e)).2.2) := by
  unfold bodyK; rw [if_pos h]; rfl
theorem bodyK_few (seq : Int) (n : Nat) (l : List UInt8) (e : Int) (h : ¬ 24 < n) : bodyK seq n l e = finK seq (kepN n ([], l, e)).1 (ended (kepN n ([], l, e)).2.1 (kepN n ([], l, e)).2.2) := by
  unfold bodyK; rw [if_neg h]
theorem badK_lo (seq : Int) (ks : List KepS) (h : seq < 1) : badK seq ks = true := by simp [badK, h]
theorem badK_hi (seq : Int) (ks : List KepS) (h : 1073741824 < seq) : badK seq ks = true := by simp [badK, h]
theorem badK_may (seq : Int) (ks : List KepS) (h1 : ¬ seq < 1) (h2 : ¬ 1073741824 < seq) : badK seq ks = ks.any fun k => !mayK k := by simp [badK, h1, h2]
end Go.Proofs.Ytcpifcdndhhmgaa
