/- The sparse walk's laws for a variable of one cell: boxed, laid; and for a function value made. No program in sight. Which of two entries stands ahead; the first that another one stands ahead of. The sparse walk's laws for copy of elements of some cells, and for append of zero values that grows. No program in sight. -/
import Derived.Test.YtkncomkncfcecaaKn
import Derived.RangeFuncBox
import Derived.Test.YtkncomkncfcecaaKnV
import Derived.Test.YtkncomkncfcecaaFlashLaws
import Derived.Laws.CopyRow
import Derived.Lib.AppendZerosOnto
set_option linter.unusedVariables false
set_option linter.unusedSimpArgs false
namespace Go.Proofs.Ytkncomkncfcecaa
open Go.RowKit
section
variable {P : Program} {Q : Exit → Act → World → Prop} {n : Nat} {L : Slots} {w : World} {ops : Array Oper} {rest : List Oper} {o : Oper}
theorem kl_box1 {d y : Nat} {t : TypeId} {v : Value} (hd : o.dst = some d) (hg : o.guard = none) (ho : o.op = .box t (.tmp y)) (hy : lk L y = some v) (hv : v.cells = #[v]) (hn : Nat.blt d n = true)
    (h : ∀ g w', Hid (g = w.heap.size) → Hid (w'.heap.size = w.heap.size + 1) → Below w.heap.size w w' → Boxed w' g t v → KL P ops Q rest n ((d, .pointer (some ⟨g, 0, none⟩)) :: L) w') : KL P ops Q (o :: rest) n L w :=
  Zn hd hg (by simp [ho, okop, okx, hy, hn]) fun K hK => by
    have he : ev L (.tmp y) = v := by simp [ev, hy]
    have hr : (execOp (ev L) o).run P w = .ok (.value (.pointer (some ⟨w.heap.size, 0, none⟩))) (w.alloc (.cells #[v] t)) := by
      simp [execOp, ho, he, Instr.box, Sem.run_bind, Sem.run_pure, newVar, newRow, hv]
    rw [hr]
    exact hK _ _ (h _ _ (by show _ = _; rfl) (by show _ = _; simp) ((Below.refl _ _).alloc (Nat.le_refl _) _) (Boxed.new w t v))
theorem kl_alloc1 {d : Nat} {t : TypeId} {v : Value} (hd : o.dst = some d) (hg : o.guard = none) (ho : o.op = .alloc t) (hz : (P.info? t).bind (·.zero) = some v) (hv : v.cells = #[v]) (hn : Nat.blt d n = true)
    (h : ∀ g w', Hid (g = w.heap.size) → Hid (w'.heap.size = w.heap.size + 1) → Below w.heap.size w w' → Boxed w' g t v → KL P ops Q rest n ((d, .pointer (some ⟨g, 0, none⟩)) :: L) w') : KL P ops Q (o :: rest) n L w := ⟨fun a k => by
  refine wpList_plain hg fun K hK => ?_
  obtain ⟨it, hi, hz'⟩ : ∃ it, P.info? t = some it ∧ it.zero = some v := by
    cases hi : P.info? t with
    | none => simp [hi] at hz
    | some it => exact ⟨it, rfl, by simpa [hi] using hz⟩
  have hr : (execOp a.eval o).run P w = .ok (.value (.pointer (some ⟨w.heap.size, 0, none⟩))) (w.alloc (.cells #[v] t)) := by
    have h0 : (zeroValue t).run P w = .ok v w := by
      simp [zeroValue, typeInfo, Sem.run_bind, hi, hz', go_sem]
    simp [execOp, ho, Instr.alloc, Sem.run_bind, Sem.run_pure, newVar, newRow, hv, h0]
  unfold Oper.wp
  rw [hr]
  exact hK _ _ (XG k hd hn (h _ _ (by show _ = _; rfl) (by show _ = _; simp) ((Below.refl _ _).alloc (Nat.le_refl _) _) (Boxed.new w t v)))⟩
theorem kl_makeFunc {d : Nat} {f : Fn} {xs : Array Operand} (hd : o.dst = some d) (hg : o.guard = none) (ho : o.op = .makeFunc f #[] xs) (hk : (xs.toList.all (okx L) && Nat.blt d n) = true) (hr : (execOp (ev L) o).run P w = .ok (.value (.func f #[] (xs.map (ev L)))) w)
    (h : KL P ops Q rest n ((d, .func f #[] (xs.map (ev L))) :: L) w) : KL P ops Q (o :: rest) n L w :=
  kl_run hd hg (by simp only [Bool.and_eq_true] at hk; simp [ho, okop, hk]) hr h
end
end Go.Proofs.Ytkncomkncfcecaa
set_option linter.unusedVariables false
set_option linter.unusedSimpArgs false
namespace Go.Proofs.Ytkncomkncfcecaa
open Go.RowKit
attribute [local go_sem] Y1 Yl Yp ZT Yy Yo ZI ZO Yi ZN ZH ZU Ya
def plcC (p : Plc) : List Value := entC p.1 ++ [.int .i64 p.2]
theorem Xi (p : Plc) (h : p.1.sum.length = 32) : (plcC p).length = 35 := by simp [plcC, ZR p.1 h]
theorem plc_34 (p : Plc) (h : p.1.sum.length = 32) : (plcC p)[34]? = some (.int .i64 p.2) := by
  unfold plcC
  rw [List.getElem?_append_right (by rw [ZR p.1 h]; omega), ZR p.1 h]; rfl
theorem plc_one' (p : Plc) : ∀ u ∈ plcC p, u.oneCell' = true := fun u hu => by
  rcases List.mem_append.1 hu with h | h
  · exact ent_one' _ u h
  · simp at h; subst h; rfl
theorem plc_one (p : Plc) : (plcC p).toArray.all (·.oneCell') = true := by
  rw [← Array.all_toList]; exact List.all_eq_true.2 (plc_one' p)
theorem plcZero : (Try.prog.info? 72).bind (·.zero) = some (.agg (plcC (entZ, 0)).toArray) := by kernel_rfl
theorem plcSize : (Try.prog.info? 72).map (·.size) = some 35 := by kernel_rfl
theorem plcInfo (p : Plc) (h : p.1.sum.length = 32) : (Try.prog.info? 72).map (·.size) = some (plcC p).toArray.size := by rw [plcSize]; simp [Xi p h]
theorem plcInfoL (p : Plc) (h : p.1.sum.length = 32) : (Try.prog.info? 72).map (·.size) = some (plcC p).length := by rw [plcSize]; simp [Xi p h]
theorem plcUnder : ∃ fs, Try.prog.underlying 72 = some (.struct fs) ∧ fs.toList.mapM (fun f => (Try.prog.info? f.type).map fun i => (f.offset, i.size)) = some [(0, 34), (34, 1)] := ⟨_, Try.underlying72, by kernel_rfl⟩
theorem plcBuilt (e : EntS) (h : e.sum.length = 32) (s : Int) : Try.prog.built 72 [(0, .agg (entC e).toArray), (1, .int .i64 s)] = some (plcC (e, s)).toArray := by
  obtain ⟨fs, hu, hp⟩ := plcUnder
  rw [YD plcZero hu hp]
  have he := ZR e h
  have hz : (plcC (entZ, 0)).length = 35 := Xi _ ZL
  have h1 := YE ([(0, 34), (34, 1)].toArray[·]?) [] (plcC (entZ, 0)) 0 (.agg (entC e).toArray) (entC e) rfl (by rw [he]; rfl) (by rw [he, hz]; omega) [(1, .int .i64 s)]
  have hd : (plcC (entZ, 0)).drop (entC e).length = [.int .i64 0] := by
    rw [he]; unfold plcC
    rw [List.drop_append_of_le_length (by rw [ZR _ ZL]; omega), List.drop_of_length_le (by rw [ZR _ ZL]; omega)]; rfl
  rw [hd] at h1
  have h2 := YE ([(0, 34), (34, 1)].toArray[·]?) ([] ++ entC e) [.int .i64 0] 1 _ _ (YW .i64 s) (by rw [List.nil_append, he]; rfl) (by simp) []
  rw [Xm] at h2
  refine h1.trans (h2.trans ?_)
  show some (([] ++ entC e ++ [Value.int .i64 s]) ++ []).toArray = _
  rw [List.nil_append, List.append_nil]
  rfl
theorem head_seq {w : World} {b : Nat} {p : Plc} {t : TypeId} (h : w.heap[b]? = some (.cells (plcC p).toArray t (0, 0))) : w.cell? ⟨b, 0, none⟩ = some (.int .i64 p.1.seq) := Z4 h rfl
theorem head_sec {w : World} {b : Nat} {p : Plc} {t : TypeId} (h : w.heap[b]? = some (.cells (plcC p).toArray t (0, 0))) (hs : p.1.sum.length = 32) : w.cell? ⟨b, 34, none⟩ = some (.int .i64 p.2) := Z4 h (by rw [List.getElem?_toArray]; exact plc_34 p hs)
set_option maxRecDepth 100000 in
set_option maxHeartbeats 1000000 in
theorem newer_any (p q : Plc) (w : World) (hp : p.1.sum.length = 32) (hq : q.1.sum.length = 32) : Calls Try.prog 51 #[.agg (plcC p).toArray, .agg (plcC q).toArray] w fun e w' => e = .returned (.bool (newerP p q)) ∧ Below w.heap.size w w' := by
  refine ZZ Try.func51 rfl Try.ntmps51 rfl [(0, .agg (plcC p).toArray), (1, .agg (plcC q).toArray)] rfl ?_
  refine Zv ?_
  refine Zc ?_
  refine Xx (Lay.start w) rfl rfl rfl rfl rfl ?_
  intro b2 w1 hb2 hb1 hL
  clear hb2 hb1
  refine Xx hL rfl rfl rfl rfl rfl ?_
  intro b3 w2 hb3 hb1 hL
  clear hb3 hb1
  have p0 := head_seq (hL.at_ 1 rfl)
  have p1 := head_sec (hL.at_ 1 rfl) hp
  have q0 := head_seq (hL.at_ 0 rfl)
  have q1 := head_sec (hL.at_ 0 rfl) hq
  have HB := Lib.hid hL.below
  clear hL
  obtain ⟨ps, hps⟩ : ∃ ps, p.1.seq = ps := ⟨_, rfl⟩
  obtain ⟨qs, hqs⟩ : ∃ qs, q.1.seq = qs := ⟨_, rfl⟩
  obtain ⟨pt, hpt⟩ : ∃ pt, p.2 = pt := ⟨_, rfl⟩
  obtain ⟨qt, hqt⟩ : ∃ qt, q.2 = qt := ⟨_, rfl⟩
  have HN : Hid (newerP p q = (decide (qs < ps) || (decide (ps = qs) && decide (pt = qt)))) := by show _ = _; rw [← hps, ← hqs, ← hpt, ← hqt]; rfl
  rw [hps] at p0
  rw [hqs] at q0
  rw [hpt] at p1
  rw [hqt] at q1
  clear hps hqs hpt hqt
  by_cases h1 : qs < ps
  · have t1 : decide (qs < ps) = true := decide_eq_true h1
    have hr := HN.out
    rw [t1, Bool.true_or] at hr
    have HR := Lib.hid hr
    clear hr
    repeat (first | refine Zv ?_ | refine Zs ?_ | refine Zu ?_ | refine Zc ?_ | refine Zq ?_ | refine Zm ?_ | refine Zp ?_ | refine Zw ?_ | refine Zf ?_ | refine Zd rfl ?_ | refine Zj rfl ?_ | refine Ze ?_ | refine Z3 ?_ | refine Zk ?_ | refine Zg ?_ | refine Zi ?_ | refine Zy rfl ?_ | refine Zx rfl ?_ | refine Zz rfl rfl ?_ | refine Zt rfl rfl rfl rfl ?_ | refine Zr rfl rfl rfl ?_ | (first | refine Zb rfl rfl (.inl rfl) rfl rfl ?_ | refine Zb rfl rfl (.inr rfl) rfl rfl ?_ | refine Za rfl rfl (.inl rfl) rfl ?_ | refine Za rfl rfl (.inr rfl) rfl ?_) | ((first | refine Zn rfl rfl rfl fun K hK => ?_ | refine Zh rfl rfl rfl fun K hK => ?_); go_simp; (try go_bits); (first | refine hK _ _ ?_ | refine hK _ ?_); clear hK K))
    exact ZE rfl rfl ⟨by rw [HR.out], HB.out⟩
  have t1 : decide (qs < ps) = false := decide_eq_false h1
  by_cases h2 : ps = qs
  · have t2 : (ps == qs) = true := beq_iff_eq.2 h2
    by_cases h3 : pt = qt
    · have t3 : (pt == qt) = true := beq_iff_eq.2 h3
      have hr := HN.out
      rw [t1, decide_eq_true h2, decide_eq_true h3] at hr
      have HR := Lib.hid hr
      clear hr h1 h2 h3
      repeat (first | refine Zv ?_ | refine Zs ?_ | refine Zu ?_ | refine Zc ?_ | refine Zq ?_ | refine Zm ?_ | refine Zp ?_ | refine Zw ?_ | refine Zf ?_ | refine Zd rfl ?_ | refine Zj rfl ?_ | refine Ze ?_ | refine Z3 ?_ | refine Zk ?_ | refine Zg ?_ | refine Zi ?_ | refine Zy rfl ?_ | refine Zx rfl ?_ | refine Zz rfl rfl ?_ | refine Zt rfl rfl rfl rfl ?_ | refine Zr rfl rfl rfl ?_ | (first | refine Zb rfl rfl (.inl rfl) rfl rfl ?_ | refine Zb rfl rfl (.inr rfl) rfl rfl ?_ | refine Za rfl rfl (.inl rfl) rfl ?_ | refine Za rfl rfl (.inr rfl) rfl ?_) | ((first | refine Zn rfl rfl rfl fun K hK => ?_ | refine Zh rfl rfl rfl fun K hK => ?_); go_simp; (try go_bits); (first | refine hK _ _ ?_ | refine hK _ ?_); clear hK K))
      exact ZE rfl rfl ⟨by rw [HR.out]; rfl, HB.out⟩
    · have t3 : (pt == qt) = false := beq_eq_false_iff_ne.2 h3
      have hr := HN.out
      rw [t1, decide_eq_true h2, decide_eq_false h3] at hr
      have HR := Lib.hid hr
      clear hr h1 h2 h3
      repeat (first | refine Zv ?_ | refine Zs ?_ | refine Zu ?_ | refine Zc ?_ | refine Zq ?_ | refine Zm ?_ | refine Zp ?_ | refine Zw ?_ | refine Zf ?_ | refine Zd rfl ?_ | refine Zj rfl ?_ | refine Ze ?_ | refine Z3 ?_ | refine Zk ?_ | refine Zg ?_ | refine Zi ?_ | refine Zy rfl ?_ | refine Zx rfl ?_ | refine Zz rfl rfl ?_ | refine Zt rfl rfl rfl rfl ?_ | refine Zr rfl rfl rfl ?_ | (first | refine Zb rfl rfl (.inl rfl) rfl rfl ?_ | refine Zb rfl rfl (.inr rfl) rfl rfl ?_ | refine Za rfl rfl (.inl rfl) rfl ?_ | refine Za rfl rfl (.inr rfl) rfl ?_) | ((first | refine Zn rfl rfl rfl fun K hK => ?_ | refine Zh rfl rfl rfl fun K hK => ?_); go_simp; (try go_bits); (first | refine hK _ _ ?_ | refine hK _ ?_); clear hK K))
      exact ZE rfl rfl ⟨by rw [HR.out]; rfl, HB.out⟩
  · have t2 : (ps == qs) = false := beq_eq_false_iff_ne.2 h2
    have hr := HN.out
    rw [t1, decide_eq_false h2] at hr
    have HR := Lib.hid hr
    clear hr h1 h2
    repeat (first | refine Zv ?_ | refine Zs ?_ | refine Zu ?_ | refine Zc ?_ | refine Zq ?_ | refine Zm ?_ | refine Zp ?_ | refine Zw ?_ | refine Zf ?_ | refine Zd rfl ?_ | refine Zj rfl ?_ | refine Ze ?_ | refine Z3 ?_ | refine Zk ?_ | refine Zg ?_ | refine Zi ?_ | refine Zy rfl ?_ | refine Zx rfl ?_ | refine Zz rfl rfl ?_ | refine Zt rfl rfl rfl rfl ?_ | refine Zr rfl rfl rfl ?_ | (first | refine Zb rfl rfl (.inl rfl) rfl rfl ?_ | refine Zb rfl rfl (.inr rfl) rfl rfl ?_ | refine Za rfl rfl (.inl rfl) rfl ?_ | refine Za rfl rfl (.inr rfl) rfl ?_) | ((first | refine Zn rfl rfl rfl fun K hK => ?_ | refine Zh rfl rfl rfl fun K hK => ?_); go_simp; (try go_bits); (first | refine hK _ _ ?_ | refine hK _ ?_); clear hK K))
    exact ZE rfl rfl ⟨by rw [HR.out]; rfl, HB.out⟩
def funV : Value := .func (.func 51) #[] #[]
structure Newer (w : World) (gf gx : Nat) (x : Plc) : Prop where
  fn : w.cell? ⟨gf, 0, none⟩ = some funV
  item : w.heap[gx]? = some (.cells (plcC x).toArray 72 (0, 0))
  len : x.1.sum.length = 32
theorem Newer.below {w w' : World} {gf gx : Nat} {x : Plc} (h : Newer w gf gx x) (hb : Below w.heap.size w w') : Newer w' gf gx x := ⟨Keeps.of_below hb _ _ h.fn, by rw [hb.block gx (Array.getElem?_eq_some_iff.1 h.item).1]; exact h.item, h.len⟩
def cloV (gf gx : Nat) : Value := .func (.func 55) #[] #[.pointer (some ⟨gf, 0, none⟩), .pointer (some ⟨gx, 0, none⟩)]
set_option maxRecDepth 100000 in
set_option maxHeartbeats 1000000 in
theorem all1_any (gf gx : Nat) (x y : Plc) (w : World) (h : Newer w gf gx x) (hy : y.1.sum.length = 32) : Calls Try.prog 55 #[.agg (plcC y).toArray, .pointer (some ⟨gf, 0, none⟩), .pointer (some ⟨gx, 0, none⟩)] w fun e w' => e = .returned (.bool (newerP x y)) ∧ Below w.heap.size w w' := by
  refine ZZ Try.func55 rfl Try.ntmps55 rfl [(0, .agg (plcC y).toArray), (1, .pointer (some ⟨gf, 0, none⟩)), (2, .pointer (some ⟨gx, 0, none⟩))] rfl ?_
  refine Zv ?_
  refine Zc ?_
  refine Xx (Lay.start w) rfl rfl rfl rfl rfl ?_
  intro b3 w1 hb3 hb1 hL
  clear hb3
  have h1 := h.below hb1
  have c1 := h1.fn
  clear hb1
  repeat (first | refine Zv ?_ | refine Zq ?_ | refine Zm ?_ | refine Zc ?_ | (first | refine Zb rfl rfl (.inl rfl) rfl rfl ?_ | refine Zb rfl rfl (.inr rfl) rfl rfl ?_ | refine Za rfl rfl (.inl rfl) rfl ?_ | refine Za rfl rfl (.inr rfl) rfl ?_) | ((first | refine Zn rfl rfl rfl fun K hK => ?_ | refine Zh rfl rfl rfl fun K hK => ?_); go_simp; (try go_bits); (first | refine hK _ _ ?_ | refine hK _ ?_); clear hK K))
  refine X2 72 gx 72 (plcC x).toArray (0, 0) _ h1.item Try.underlying72 rfl (plcInfo x h.len) rfl rfl rfl rfl rfl ?_
  refine X2 72 b3 72 (plcC y).toArray (0, 0) _ (hL.at_ 0 rfl) Try.underlying72 rfl (plcInfo y hy) rfl rfl rfl rfl rfl ?_
  have HB := Lib.hid hL.below
  clear c1 hL
  refine kl_callv rfl rfl rfl (by exact rfl) Try.func51 rfl (by kernel_rfl) rfl ?_
  refine Calls.mono (newer_any x y w1 h.len hy) ?_
  rintro e w2 ⟨rfl, hb2⟩
  refine ⟨_, rfl, ?_⟩
  have hb := Z1 HB.out hb2 HB.out.size
  clear hb2 h1
  repeat (first | refine Zv ?_ | refine Zs ?_ | refine Zu ?_ | refine Zc ?_ | refine Zq ?_ | refine Zm ?_ | refine Zp ?_ | refine Zw ?_ | refine Zf ?_ | refine Zd rfl ?_ | refine Zj rfl ?_ | refine Ze ?_ | refine Z3 ?_ | refine Zk ?_ | refine Zg ?_ | refine Zi ?_ | refine Zy rfl ?_ | refine Zx rfl ?_ | refine Zz rfl rfl ?_ | refine Zt rfl rfl rfl rfl ?_ | refine Zr rfl rfl rfl ?_ | (first | refine Zb rfl rfl (.inl rfl) rfl rfl ?_ | refine Zb rfl rfl (.inr rfl) rfl rfl ?_ | refine Za rfl rfl (.inl rfl) rfl ?_ | refine Za rfl rfl (.inr rfl) rfl ?_) | ((first | refine Zn rfl rfl rfl fun K hK => ?_ | refine Zh rfl rfl rfl fun K hK => ?_); go_simp; (try go_bits); (first | refine hK _ _ ?_ | refine hK _ ?_); clear hK K))
  exact ZE rfl rfl ⟨rfl, hb⟩
structure PlS (w : World) (A : Option Addr) (n : Nat) (l : List Plc) : Prop where
  len : l.length = n
  at_ : 0 < n → ∃ g o, A = some ⟨g, o, none⟩ ∧ ∀ i p, l[i]? = some p → w.rangeAt g (o + i * 35) (plcC p)
  sums : ∀ p ∈ l, p.1.sum.length = 32
theorem PlS.below {w w' : World} {A : Option Addr} {n : Nat} {l : List Plc} (h : PlS w A n l) (hb : Below w.heap.size w w') : PlS w' A n l :=
  ⟨h.len, fun hn => by obtain ⟨g, o, e, hc⟩ := h.at_ hn; exact ⟨g, o, e, fun i p hp => YC (hc i p hp) hb⟩, h.sums⟩
theorem PlS.next {w : World} {A : Option Addr} {n k : Nat} {l : List Plc} (h : PlS w A n l) (hk : k < n) :
    ∃ g o p, A = some ⟨g, o, none⟩ ∧ w.rangeAt g (o + k * 35) (plcC p) ∧ p.1.sum.length = 32 ∧ Hid (l.take (k + 1) = l.take k ++ [p]) ∧ Hid (l[k]? = some p) := by
  obtain ⟨g, o, e, hc⟩ := h.at_ (by omega)
  have hl : k < l.length := by rw [h.len]; exact hk
  exact ⟨g, o, l[k], e, hc k _ (List.getElem?_eq_getElem hl), h.sums _ (List.getElem_mem hl), Xy hl, List.getElem?_eq_getElem hl⟩
def idxP (x : Plc) (l : List Plc) : Int := match l.findIdx? (fun y => newerP x y) with | some k => (k : Int) | none => -1
theorem idx_hit (x : Plc) (l : List Plc) (k : Nat) (y : Plc) (hy : l[k]? = some y) (hn : (l.take k).all (fun y => !newerP x y) = true) (h : newerP x y = true) : idxP x l = k := by
  have : l.findIdx? (fun y => newerP x y) = some k := by
    rw [List.findIdx?_eq_some_iff_getElem]
    have hk := (List.getElem?_eq_some_iff.1 hy).1
    refine ⟨hk, ?_, fun j hj => ?_⟩
    · have : l[k] = y := (List.getElem?_eq_some_iff.1 hy).2
      rw [this]; exact h
    · have h1 := List.all_eq_true.1 hn l[j] (by rw [List.mem_take_iff_getElem]; exact ⟨j, by omega, rfl⟩)
      simpa using h1
  unfold idxP
  rw [this]
theorem idx_none (x : Plc) (l : List Plc) (hn : l.all (fun y => !newerP x y) = true) : idxP x l = -1 := by
  have : l.findIdx? (fun y => newerP x y) = none := by
    rw [List.findIdx?_eq_none_iff]
    intro y hy
    have := List.all_eq_true.1 hn y hy
    simpa using this
  unfold idxP
  rw [this]
set_option maxRecDepth 100000 in
set_option maxHeartbeats 1000000 in
theorem indexP_any (gf gx : Nat) (x : Plc) (A : Option Addr) (n c : Nat) (l : List Plc) (w : World) (h : Newer w gf gx x) (hA : PlS w A n l) (hn : n ≤ 4611686018427387904) :
    Calls Try.prog 54 #[.slice A n c, cloV gf gx] w fun e w' => e = .returned (.int .i64 (idxP x l)) ∧ Below w.heap.size w w' := by
  have HL := Lib.hid hA.len
  have HC : Hid (cloV gf gx = .func (.func 55) #[] #[.pointer (some ⟨gf, 0, none⟩), .pointer (some ⟨gx, 0, none⟩)]) := rfl
  refine ZZ Try.func54 rfl Try.ntmps54 rfl [(0, .slice A n c), (1, cloV gf gx)] rfl ?_
  repeat (first | refine Zv ?_ | refine Zu ?_ | refine Zc ?_ | refine Zq ?_ | refine Zm ?_ | refine Zp ?_ | refine Zw ?_ | refine Zf ?_ | refine Zd rfl ?_ | refine Zj rfl ?_ | refine Ze ?_ | refine Z3 ?_ | refine Zk ?_ | refine Zg ?_ | refine Zi ?_ | refine Zy rfl ?_ | refine Zx rfl ?_ | refine Zz rfl rfl ?_ | refine Zt rfl rfl rfl rfl ?_ | refine Zr rfl rfl rfl ?_ | (first | refine Zb rfl rfl (.inl rfl) rfl rfl ?_ | refine Zb rfl rfl (.inr rfl) rfl rfl ?_ | refine Za rfl rfl (.inl rfl) rfl ?_ | refine Za rfl rfl (.inr rfl) rfl ?_) | ((first | refine Zn rfl rfl rfl fun K hK => ?_ | refine Zh rfl rfl rfl fun K hK => ?_); go_simp; (try go_bits); (first | refine hK _ _ ?_ | refine hK _ ?_); clear hK K))
  refine KW.less [0, 1, 7, 8] ?_
  simp only [nrm, lk, Nat.reduceBEq, cond_true, cond_false]
  refine Zs ?_
  refine Yw (fun m L wr => ∃ k, k ≤ n ∧ m = n - k ∧ Hid (Below w.heap.size w wr) ∧ Hid ((l.take k).all (fun y => !newerP x y) = true) ∧ L = [(0, .slice A n c), (1, cloV gf gx), (7, .int .i64 (n : Int)), (8, .int .i64 (k : Int))]) ⟨0, by omega, rfl, Below.refl _ _, by show _ = _; simp, rfl⟩ ?_
  rintro m L wr ⟨k, hk, rfl, hb, htk, rfl⟩
  by_cases hlt : k < n
  case neg =>
    obtain rfl : n = k := by omega
    have t1 : decide ((n : Int) < (n : Int)) = false := by simp
    have hany : l.all (fun y => !newerP x y) = true := by have := htk.out; rwa [List.take_of_length_le (by rw [HL.out]; exact Nat.le_refl _)] at this
    have HA := Lib.hid (idx_none x l hany)
    clear hany hlt
    repeat (first | refine Zv ?_ | refine Zs ?_ | refine Zu ?_ | refine Zc ?_ | refine Zq ?_ | refine Zm ?_ | refine Zp ?_ | refine Zw ?_ | refine Zf ?_ | refine Zd rfl ?_ | refine Zj rfl ?_ | refine Ze ?_ | refine Z3 ?_ | refine Zk ?_ | refine Zg ?_ | refine Zi ?_ | refine Zy rfl ?_ | refine Zx rfl ?_ | refine Zz rfl rfl ?_ | refine Zt rfl rfl rfl rfl ?_ | refine Zr rfl rfl rfl ?_ | (first | refine Zb rfl rfl (.inl rfl) rfl rfl ?_ | refine Zb rfl rfl (.inr rfl) rfl rfl ?_ | refine Za rfl rfl (.inl rfl) rfl ?_ | refine Za rfl rfl (.inr rfl) rfl ?_) | ((first | refine Zn rfl rfl rfl fun K hK => ?_ | refine Zh rfl rfl rfl fun K hK => ?_); go_simp; (try go_bits); (first | refine hK _ _ ?_ | refine hK _ ?_); clear hK K))
    exact ZE rfl rfl ⟨by rw [HA.out], hb.out⟩
  have hk1 : (k : Int) < n := by omega
  have hk0 : (0 : Int) ≤ k := by omega
  obtain ⟨g, o, y, rfl, hra, hys, hx, hgx⟩ := hA.next hlt
  have HRA := Lib.hid (YC hra hb.out)
  have HN := Lib.hid (h.below hb.out)
  clear hra
  obtain ⟨ok, hok⟩ : ∃ ok, o + k * 35 = ok := ⟨_, rfl⟩
  rw [hok] at HRA
  repeat (first | refine Zv ?_ | refine Zs ?_ | refine Zc ?_ | refine Zq ?_ | refine Zm ?_ | refine Zy rfl ?_ | refine Zu ?_ | (first | refine Zb rfl rfl (.inl rfl) rfl rfl ?_ | refine Zb rfl rfl (.inr rfl) rfl rfl ?_ | refine Za rfl rfl (.inl rfl) rfl ?_ | refine Za rfl rfl (.inr rfl) rfl ?_) | ((first | refine Zn rfl rfl rfl fun K hK => ?_ | refine Zh rfl rfl rfl fun K hK => ?_); go_simp; (try go_bits); (first | refine hK _ _ ?_ | refine hK _ ?_); clear hK K))
  refine Y8 72 g ok _ _ HRA.out Try.underlying72 rfl (plcInfoL y hys) rfl rfl rfl rfl rfl ?_
  clear HRA
  refine kl_callv rfl rfl rfl (by exact rfl) Try.func55 rfl (by kernel_rfl) rfl ?_
  refine Calls.mono (all1_any gf gx x y wr HN.out hys) ?_
  rintro e w2 ⟨rfl, hb2⟩
  refine ⟨_, rfl, ?_⟩
  have hb3 := Z1 hb.out hb2 hb.out.size
  clear hb2 HN
  cases hpx : newerP x y
  case true =>
    have HA := Lib.hid (idx_hit x l k y hgx.out htk.out hpx)
    repeat (first | refine Zv ?_ | refine Zs ?_ | refine Zu ?_ | refine Zc ?_ | refine Zq ?_ | refine Zm ?_ | refine Zp ?_ | refine Zw ?_ | refine Zf ?_ | refine Zd rfl ?_ | refine Zj rfl ?_ | refine Ze ?_ | refine Z3 ?_ | refine Zk ?_ | refine Zg ?_ | refine Zi ?_ | refine Zy rfl ?_ | refine Zx rfl ?_ | refine Zz rfl rfl ?_ | refine Zt rfl rfl rfl rfl ?_ | refine Zr rfl rfl rfl ?_ | (first | refine Zb rfl rfl (.inl rfl) rfl rfl ?_ | refine Zb rfl rfl (.inr rfl) rfl rfl ?_ | refine Za rfl rfl (.inl rfl) rfl ?_ | refine Za rfl rfl (.inr rfl) rfl ?_) | ((first | refine Zn rfl rfl rfl fun K hK => ?_ | refine Zh rfl rfl rfl fun K hK => ?_); go_simp; (try go_bits); (first | refine hK _ _ ?_ | refine hK _ ?_); clear hK K))
    exact ZE rfl rfl ⟨by rw [HA.out], hb3⟩
  have hn1 : Hid ((l.take (k + 1)).all (fun y => !newerP x y) = true) := by
    show _ = _
    rw [hx.out, List.all_append, htk.out]
    simp [hpx]
  obtain ⟨nk, hnk⟩ : ∃ nk, k + 1 = nk := ⟨_, rfl⟩
  have i3 : (k : Int) + 1 = (nk : Int) := by omega
  have i4 : IntKind.i64.wrap ((k : Int) + 1) = (nk : Int) := by rw [i3, IntWalk.i64_in _ (by omega)]
  rw [hnk] at hn1
  have HNK := Lib.hid (And.intro hnk hlt)
  clear hnk hlt
  repeat (first | refine Zv ?_ | refine Zc ?_ | refine Zq ?_ | refine Zm ?_ | refine Zp ?_ | refine Zy rfl ?_ | refine Zx rfl ?_ | refine Zu ?_ | (first | refine Zb rfl rfl (.inl rfl) rfl rfl ?_ | refine Zb rfl rfl (.inr rfl) rfl rfl ?_ | refine Za rfl rfl (.inl rfl) rfl ?_ | refine Za rfl rfl (.inr rfl) rfl ?_) | ((first | refine Zn rfl rfl rfl fun K hK => ?_ | refine Zh rfl rfl rfl fun K hK => ?_); go_simp; (try go_bits); (first | refine hK _ _ ?_ | refine hK _ ?_); clear hK K))
  refine Yk (n - nk) [0, 1, 7, 8] (by have := HNK.out; omega) ?_
  exact ⟨nk, by have := HNK.out; omega, rfl, hb3, hn1, rfl⟩
end Go.Proofs.Ytkncomkncfcecaa
set_option linter.unusedVariables false
set_option linter.unusedSimpArgs false
namespace Go.Proofs.Ytkncomkncfcecaa
open Go.RowKit
section
variable {P : Program}
theorem run_copy_rowN (w : World) (dT sT ty elem : TypeId) (sz g o dLen dCap : Nat) (a : Addr) (sLen sCap : Nat) (cur : Array Value) (t : TypeId) (cs : List Value)
    (hu : P.underlying dT = some (.slice elem)) (hs : (P.info? elem).map (·.size) = some sz)
    (hg : w.heap[g]? = some (.cells cur t (0, 0))) (hn : cs.length = Nat.min sLen dLen * sz)
    (hsrc : ∀ j v, cs[j]? = some v → w.cell? (a.add j) = some v) (hfit : o + cs.length ≤ cur.size) (h1 : ∀ v ∈ cs, v.oneCell' = true) :
    (Builtin.copy_ #[dT, sT] ty #[.slice (some ⟨g, o, none⟩) dLen dCap, .slice (some a) sLen sCap]).run P w =
      .ok (goInt (Nat.min sLen dLen)) (w.setRow g (cur.toList.take o ++ cs ++ cur.toList.drop (o + cs.length)).toArray) := by
  have hl := run_loadCells_list (P := P) w a cs hsrc
  have hst := run_storeCells_at P g o t cs 0 cur w hg (by simpa using hfit) h1
  cases hq : P.info? elem with
  | none => simp [hq] at hs
  | some i =>
    have hi : i.size = sz := by simpa [hq] using hs
    simp [Builtin.copy_, run_underlying hu, Builtin.lenOf, Builtin.firstCells, sizeOf, typeInfo, hq, hi, ← hn, hl, hst]
variable {Q : Exit → Act → World → Prop} {N : Nat} {L : Slots} {w : World} {ops : Array Oper} {rest : List Oper} {o : Oper}
theorem kl_copyN {d x y : Nat} (dT elem : TypeId) (sz g off dLen dCap g2 o2 sLen sCap : Nat) (cur : List Value) (t : TypeId) (cs : List Value)
    (hu : P.underlying dT = some (.slice elem)) (hs : (P.info? elem).map (·.size) = some sz) (hcur : w.heap[g]? = some (.cells cur.toArray t (0, 0))) (hn : cs.length = Nat.min sLen dLen * sz)
    (hsrc : w.rangeAt g2 o2 cs) (hfit : off + cs.length ≤ cur.length) (h1 : ∀ v ∈ cs, v.oneCell' = true)
    (hd : o.dst = some d) (hg : o.guard = none) (ho : o.op = .call { callee := .builtin .copy, args := #[.tmp x, .tmp y], argTypes := #[dT, dT] })
    (hx : lk L x = some (.slice (some ⟨g, off, none⟩) dLen dCap)) (hy : lk L y = some (.slice (some ⟨g2, o2, none⟩) sLen sCap)) (hb : Nat.blt d N = true)
    (h : KL P ops Q rest N ((d, goInt (Nat.min sLen dLen)) :: L) (w.setRow g (cur.take off ++ cs ++ cur.drop (off + cs.length)).toArray)) : KL P ops Q (o :: rest) N L w := by
  have hx' : ev L (.tmp x) = .slice (some ⟨g, off, none⟩) dLen dCap := by simp [ev, hx]
  have hy' : ev L (.tmp y) = .slice (some ⟨g2, o2, none⟩) sLen sCap := by simp [ev, hy]
  have hr := run_copy_rowN (P := P) w dT dT o.type elem sz g off dLen dCap ⟨g2, o2, none⟩ sLen sCap cur.toArray t cs hu hs hcur hn (fun j v hj => by rw [Addr.add_lit]; exact hsrc j v hj) (by simpa using hfit) h1
  refine kl_run hd hg (by simp [ho, okop, okx, hx, hy, hb]) ?_ h
  unfold execOp
  simp only [ho, resolve, invoke, builtin, Sem.run_bind, Sem.run_pure, Result.andThen_ok, List.map_toArray, List.map_cons, List.map_nil, hx', hy', hr]
theorem kl_appZ {d x y : Nat} (t tn e : TypeId) (z : Value) (size bytes : Nat) (ht : P.underlying t = some (.slice e)) (htn : P.underlying tn = some (.int .i64)) (hinfo : (P.info? e).map (fun i => (i.zero, i.size, i.bytes)) = some (some z, size, bytes)) (hzs : z.cells.size = size) (hsz : 0 < size)
    (g sLen sCap : Nat) (olds : List Value) (hol : olds.length = sLen * size) (hold : ∀ j v, olds[j]? = some v → w.cell? ⟨g, j, none⟩ = some v) (k : Nat) (h0 : 0 < k) (hgr : sCap < sLen + k) (hby : (sLen + k) * bytes ≤ 140737488355328) (h63 : sLen + k ≤ maxLen)
    (hd : o.dst = some d) (hg : o.guard = none) (ho : o.op = .call { callee := .builtin .append, args := #[.tmp x, .tmp y], argTypes := #[t, tn] })
    (hx : lk L x = some (.slice (some ⟨g, 0, none⟩) sLen sCap)) (hy : lk L y = some (.int .i64 (k : Int))) (hb : Nat.blt d N = true)
    (h : ∀ cap Z w', sLen + k ≤ cap → cap ≤ maxLen → Z.length = (cap - sLen) * size → w'.heap[w.heap.size]? = some (.cells (olds ++ Z).toArray e (0, 0)) → Below w.heap.size w w' → KL P ops Q rest N ((d, .slice (some ⟨w.heap.size, 0, none⟩) (sLen + k) cap) :: L) w') : KL P ops Q (o :: rest) N L w := by
  obtain ⟨i0, hi0, hz0, hz1, hz2⟩ := info_parts hinfo
  have hx' : ev L (.tmp x) = .slice (some ⟨g, 0, none⟩) sLen sCap := by simp [ev, hx]
  have hy' : ev L (.tmp y) = .int .i64 (k : Int) := by simp [ev, hy]
  have hfit := growslice_fits (bytes := bytes) hgr hby
  have hkb : k * bytes ≤ (sLen + k) * bytes := Nat.mul_le_mul_right _ (by omega)
  have hr := Lib.run_append_grow_zeros (P := P) w t tn o.type e i0 z .i64 .i64 ht htn hi0 hz0 (some ⟨g, 0, none⟩) sLen sCap olds
    (run_firstCells_some w.drew i0.size sLen ⟨g, 0, none⟩ sLen sCap olds (by rw [hz1]; exact hol) (fun j v hj => by rw [Addr.add_lit, Nat.zero_add]; exact hold j v hj))
    k h0 (by omega) hgr (by simp only [maxLen] at h63; omega) (by rw [hz2]; omega) (by rw [hz2]; exact hfit)
  have hge := grownCap_ge w (sLen + k) sCap e
  have hle := grownCap_le_maxLen w (sLen + k) sCap e h63
  obtain ⟨cap, hcap⟩ : ∃ cap, grownCap w (sLen + k) sCap e = cap := ⟨_, rfl⟩
  rw [hcap] at hr hge hle
  refine kl_run hd hg (by simp [ho, okop, okx, hx, hy, hb]) (v := .slice (some ⟨w.heap.size, 0, none⟩) (sLen + k) cap) (w' := w.drew.alloc (.cells (olds.toArray ++ Builtin.zeroCells z.cells k ++ Builtin.zeroCells z.cells (cap - (sLen + k))) e)) ?_ (h cap (Builtin.zeroCells z.cells k ++ Builtin.zeroCells z.cells (cap - (sLen + k))).toList _ hge hle ?_ ?_ ?_)
  · unfold execOp
    simp only [ho, resolve, invoke, builtin, Sem.run_bind, Sem.run_pure, Result.andThen_ok, List.map_toArray, List.map_cons, List.map_nil, hx', hy', hr]
  · rw [Array.toList_append, List.length_append, Array.length_toList, Array.length_toList, size_zeroCells, size_zeroCells, hzs, ← Nat.add_mul]
    congr 1
    omega
  · have := heap_alloc_new w.drew (.cells (olds.toArray ++ Builtin.zeroCells z.cells k ++ Builtin.zeroCells z.cells (cap - (sLen + k))) e)
    refine Eq.trans this ?_
    congr 2
    rw [Array.append_assoc]
    apply Array.toList_inj.1
    simp
  · exact ((Below.refl w.heap.size w).drew).alloc (Nat.le_refl _) _
end
end Go.Proofs.Ytkncomkncfcecaa
