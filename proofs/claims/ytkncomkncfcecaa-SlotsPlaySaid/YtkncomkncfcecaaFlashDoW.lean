/- An act at both memories. -/
import Derived.Test.YtkncomkncfcecaaActArgs
import Derived.Test.YtkncomkncfcecaaRefProg
import Derived.Test.YtkncomkncfcecaaFlashOps
import Derived.Test.YtkncomkncfcecaaFlashLaws
import Derived.Test.YtkncomkncfcecaaWithin4
set_option linter.unusedVariables false
set_option linter.unusedSimpArgs false
namespace Go.Proofs.Ytkncomkncfcecaa
open Go.RowKit
def actS (zs zn : Int) : Int := ((within zs 7 : Nat) : Int) - ((within zn 40 / 39 : Nat) : Int)
def actP (zp zn : Int) : Int := if Int.tmod zn 13 = 12 then zp else ((within zp 5 : Nat) : Int)
def actB (zn : Int) (l : List UInt8) : List UInt8 := if 0 < Int.tmod zn 5 ∧ 16 < l.length then l.take 16 else l
def actF (a : ActV) (f : FlashSt) : FlashSt :=
  if within a.kind 9 < 6 then (progF f (actS a.s a.n) (actP a.p a.n) (actB a.n a.b)).2
  else if within a.kind 9 = 6 then (eraseF f (actS a.s a.n)).2
  else if within a.kind 9 = 7 then stopF f (((within a.n 6 : Nat) : Int) - 1) a.b
  else startF f
set_option maxRecDepth 100000 in
set_option maxHeartbeats 16000000 in
theorem do_any (Q : Nat → Prop) (g x : Nat) (hQg : ∀ b, Q b → b ≠ g) (hQx : ∀ b, Q b → b ≠ x) (hgx : g ≠ x) (f : FlashSt) (zk zs zp zn : Int) (l : List UInt8) (B : Option Addr) (m c : Nat) (w : World) (hf : FS Q w g f) (hx : RF Q w x f) (hQ2 : ∀ b, w.heap.size ≤ b → Q b)
    (hB : Bs w B m l) (hBg : 0 < m → Away g B) (hm : m ≤ c) (hc : c ≤ 9223372036854775807) (h40 : l.length ≤ 40) :
    Calls Try.prog 48 #[.agg #[.int .i64 zk, .int .i64 zs, .int .i64 zp, .int .i64 zn, .slice B m c], .pointer (some ⟨g, 0, none⟩), .pointer (some ⟨x, 0, none⟩)] w fun r w' =>
      r = .returned (.bool true) ∧ FS Q w' g (actF ⟨zk, zs, zp, zn, l⟩ f) ∧ RF Q w' x (actF ⟨zk, zs, zp, zn, l⟩ f) ∧ ∃ wm, w.grownBy wm (some g) ∧ wm.grownBy w' (some x) := by
  have hbl := hB.len
  have hglt := hf.lt
  have h39 : Int.tdiv ((within zn 40 : Nat) : Int) 39 = ((within zn 40 / 39 : Nat) : Int) := rfl
  have hs7 := YV zs 7 (by omega)
  have hn40 := YV zn 40 (by omega)
  have hp5 := YV zp 5 (by omega)
  skip
  go_enter Try.func48, Try.ntmps48
  go_upto_region 1 with fail
  obtain ⟨w1, hw1⟩ : ∃ w1, w1 = w.alloc (.cells #[.int .i64 zk, .int .i64 zs, .int .i64 zp, .int .i64 zn, .slice B m c] 67) := ⟨_, rfl⟩
  have hb1 : Below w.heap.size w w1 := by rw [hw1]; exact (Below.refl w.heap.size w).alloc (Nat.le_refl _) _
  have c0 : w1.cell? ⟨w.heap.size, 0, none⟩ = some (.int .i64 zk) := by rw [hw1]; exact World.cell?_alloc_new ..
  have c1 : w1.cell? ⟨w.heap.size, 1, none⟩ = some (.int .i64 zs) := by rw [hw1]; exact World.cell?_alloc_new ..
  have c2 : w1.cell? ⟨w.heap.size, 2, none⟩ = some (.int .i64 zp) := by rw [hw1]; exact World.cell?_alloc_new ..
  have c3 : w1.cell? ⟨w.heap.size, 3, none⟩ = some (.int .i64 zn) := by rw [hw1]; exact World.cell?_alloc_new ..
  have c4 : w1.cell? ⟨w.heap.size, 4, none⟩ = some (.slice B m c) := by rw [hw1]; exact World.cell?_alloc_new ..
  have hf1 := hf.below hb1
  have hx1 := hx.below hb1
  have hB1 := hB.keep (.of_below hb1)
  rw [← hw1]
  clear hw1
  obtain ⟨bx, hbx⟩ : ∃ bx, w.heap.size = bx := ⟨_, rfl⟩
  have hbg : bx ≠ g := by omega
  rw [hbx] at c0 c1 c2 c3 c4 ⊢
  clear hbx
  refine Ys [Is (.pointer (some ⟨bx, 1, none⟩)), Is (.int .i64 zs), Is (.int .i64 ((within zs 7 : Nat) : Int)), Is (.pointer (some ⟨bx, 3, none⟩)), Is (.int .i64 zn), Is (.int .i64 ((within zn 40 : Nat) : Int)), Is (.int .i64 ((within zn 40 / 39 : Nat) : Int)), Is (.int .i64 (actS zs zn)), Is (.pointer (some ⟨bx, 2, none⟩)), Is (.int .i64 zp), Is (.int .i64 ((within zp 5 : Nat) : Int)), Is (.int .i64 (actS zs zn)), Is (.int .i64 ((within zp 5 : Nat) : Int))]
    [[(3, none)], [(10, some 0)], [(11, some 1)], [(3, none)], [(13, some 3)], [(14, some 4)], [(15, some 5)], [(12, some 2), (16, some 6)], [(3, none)], [(18, some 8)], [(19, some 9)], [(17, some 7)], [(20, some 10)]]
    (by kernel_rfl) (by kernel_rfl) (by kernel_rfl)
    ⟨Zo _, Zo _, Zo _, Zo _, Zo _, Zo _, Zo _, Zo _, Zo _, Zo _, Zo _, Zo _, Zo _, trivial⟩ ?vc ?fin
  case vc =>
    refine ⟨?_, ?_, ?_, ?_, ?_, ?_, ?_, ?_, ?_, ?_, ?_, ?_, ?_, trivial⟩
    · refine Zl rfl (Z7 fun A' W hR h => ?_)
      obtain ⟨h3, _⟩ := h
      replace h3 : A'.tmps[3]?.getD undef = _ := h3
      refine ⟨_, W, ?_, Below.refl _ _, rfl⟩
      go_simp
    · refine Zl rfl (Z7 fun A' W hR h => ?_)
      obtain ⟨h10, _⟩ := h
      replace h10 : A'.tmps[10]?.getD undef = _ := h10
      have hc := Keeps.of_below hR _ _ c1
      refine ⟨_, W, ?_, Below.refl _ _, rfl⟩
      go_simp
    · refine Zl rfl (XB rfl Try.func72 rfl (by kernel_rfl) fun A' W hR h => ?_)
      obtain ⟨h11, _⟩ := h
      replace h11 : A'.tmps[11]?.getD undef = _ := h11
      show Calls _ _ #[A'.tmps[11]?.getD undef, _] _ _
      rw [h11]
      refine Calls.mono (YI zs 7 _ _ rfl (by omega) (by omega)) ?_
      rintro r W' ⟨rfl, rfl⟩
      exact ⟨_, rfl, Below.refl _ _, rfl⟩
    · refine Zl rfl (Z7 fun A' W hR h => ?_)
      obtain ⟨h3, _⟩ := h
      replace h3 : A'.tmps[3]?.getD undef = _ := h3
      refine ⟨_, W, ?_, Below.refl _ _, rfl⟩
      go_simp
    · refine Zl rfl (Z7 fun A' W hR h => ?_)
      obtain ⟨h13, _⟩ := h
      replace h13 : A'.tmps[13]?.getD undef = _ := h13
      have hc := Keeps.of_below hR _ _ c3
      refine ⟨_, W, ?_, Below.refl _ _, rfl⟩
      go_simp
    · refine Zl rfl (XB rfl Try.func72 rfl (by kernel_rfl) fun A' W hR h => ?_)
      obtain ⟨h14, _⟩ := h
      replace h14 : A'.tmps[14]?.getD undef = _ := h14
      show Calls _ _ #[A'.tmps[14]?.getD undef, _] _ _
      rw [h14]
      refine Calls.mono (YI zn 40 _ _ rfl (by omega) (by omega)) ?_
      rintro r W' ⟨rfl, rfl⟩
      exact ⟨_, rfl, Below.refl _ _, rfl⟩
    · refine Zl rfl (Z7 fun A' W hR h => ?_)
      obtain ⟨h15, _⟩ := h
      replace h15 : A'.tmps[15]?.getD undef = _ := h15
      refine ⟨_, W, ?_, Below.refl _ _, rfl⟩
      have hq := h39
      go_simp
      all_goals exact IntWalk.i64_in _ (by omega)
    · refine Zl rfl (Z7 fun A' W hR h => ?_)
      obtain ⟨h12, h16, _⟩ := h
      replace h12 : A'.tmps[12]?.getD undef = _ := h12
      replace h16 : A'.tmps[16]?.getD undef = _ := h16
      refine ⟨_, W, ?_, Below.refl _ _, rfl⟩
      go_simp
      all_goals exact IntWalk.i64_in _ (by omega)
    · refine Zl rfl (Z7 fun A' W hR h => ?_)
      obtain ⟨h3, _⟩ := h
      replace h3 : A'.tmps[3]?.getD undef = _ := h3
      refine ⟨_, W, ?_, Below.refl _ _, rfl⟩
      go_simp
    · refine Zl rfl (Z7 fun A' W hR h => ?_)
      obtain ⟨h18, _⟩ := h
      replace h18 : A'.tmps[18]?.getD undef = _ := h18
      have hc := Keeps.of_below hR _ _ c2
      refine ⟨_, W, ?_, Below.refl _ _, rfl⟩
      go_simp
    · refine Zl rfl (XB rfl Try.func72 rfl (by kernel_rfl) fun A' W hR h => ?_)
      obtain ⟨h19, _⟩ := h
      replace h19 : A'.tmps[19]?.getD undef = _ := h19
      show Calls _ _ #[A'.tmps[19]?.getD undef, _] _ _
      rw [h19]
      refine Calls.mono (YI zp 5 _ _ rfl (by omega) (by omega)) ?_
      rintro r W' ⟨rfl, rfl⟩
      exact ⟨_, rfl, Below.refl _ _, rfl⟩
    · exact Zl rfl (ZF (.inr rfl) fun A W _ h => h.1)
    · exact Zl rfl (ZF (.inr rfl) fun A W _ h => h.1)
  case fin =>
    intro A' W hd hs hR he hr
    obtain ⟨e0, e1, e2, e3, e4, e5, e6, e7, e8, e9, e10, e11, e12, _⟩ := he
    have hA' := Yn [10, 11, 12, 13, 14, 15, 16, 17, 18, 19, 20, 7, 8] rfl hd hs hr
    clear hd hs hr
    replace e0 : A'.tmps[10]?.getD undef = _ := e0
    replace e1 : A'.tmps[11]?.getD undef = _ := e1
    replace e2 : A'.tmps[12]?.getD undef = _ := e2
    replace e3 : A'.tmps[13]?.getD undef = _ := e3
    replace e4 : A'.tmps[14]?.getD undef = _ := e4
    replace e5 : A'.tmps[15]?.getD undef = _ := e5
    replace e6 : A'.tmps[16]?.getD undef = _ := e6
    replace e7 : A'.tmps[17]?.getD undef = _ := e7
    replace e8 : A'.tmps[18]?.getD undef = _ := e8
    replace e9 : A'.tmps[19]?.getD undef = _ := e9
    replace e10 : A'.tmps[20]?.getD undef = _ := e10
    replace e11 : A'.tmps[7]?.getD undef = _ := e11
    replace e12 : A'.tmps[8]?.getD undef = _ := e12
    simp only [frameAfter, List.contains_cons, List.contains_nil, Nat.reduceBEq, Bool.or_false, Bool.or_true, Bool.or_self, Bool.false_or, Bool.true_or, Bool.false_eq_true, if_true, if_false, Nat.reduceAdd, e0, e1, e2, e3, e4, e5, e6, e7, e8, e9, e10, e11, e12] at hA'
    subst hA'
    clear e0 e1 e2 e3 e4 e5 e6 e7 e8 e9 e10 e11 e12
    have hb2 := Z1 hb1 hR hb1.size
    have hf2 := (hf1.below hR)
    have hx2 := (hx1.below hR)
    have hB2 := hB1.keep (.of_below hR)
    have k0 := Keeps.of_below hR _ _ c0
    have k2 := Keeps.of_below hR _ _ c2
    have k3 := Keeps.of_below hR _ _ c3
    have k4 := Keeps.of_below hR _ _ c4
    have hk9 := YV zk 9 (by omega)
    clear c0 c1 c2 c3 c4 hb1 hf1 hx1 hB1 hR
    by_cases h13 : Int.tmod zn 13 = 12
    · have h13' : (if Int.tmod zn 13 = 12 then zp else ((within zp 5 : Nat) : Int)) = zp := if_pos h13
      have h13b : (Int.tmod zn 13 == 12) = true := by rw [beq_iff_eq]; exact h13
      go_upto_region 5 with (go_at_call 72; with_reducible refine Calls.mono (YI zk 9 _ _ rfl (by omega) (by omega)) ?_; rintro r _ ⟨rfl, rfl⟩)
      generalize hK : ((within zk 9 : Nat) : Int) = K
      have hk : K = 0 ∨ K = 1 ∨ K = 2 ∨ K = 3 ∨ K = 4 ∨ K = 5 ∨ K = 6 ∨ K = 7 ∨ K = 8 := by omega
      clear hk9
      have hsmall : (0 ≤ K ∧ K ≤ 5) → within zk 9 < 6 := fun h => by omega
      rcases hk with rfl | rfl | rfl | rfl | rfl | rfl | rfl | rfl | rfl
      iterate 6
        · have hk6 := hsmall (by omega)
          clear hsmall hK
          by_cases hcut : 0 < Int.tmod zn 5 ∧ 16 < m
          · obtain ⟨hcut1, hcut2⟩ := hcut
            have hcut2' : (16 : Int) < m := by omega
            have hact : actF ⟨zk, zs, zp, zn, l⟩ f = (progF f (actS zs zn) zp (l.take 16)).2 := by
              unfold actF actP actB
              dsimp only
              rw [if_pos hk6, h13', if_pos ⟨hcut1, by omega⟩]
            clear hk6
            go_wp2_with (first
                  | (at_builtin; refine cloneB _ rfl (.tmp 53) (.tmp 54) rfl _ rfl rfl _ _ _ (l.take 16) rfl (hB2.to_ (k := 16) (by omega)) (by omega) ?_; intro v3 w3 hown3 hb3; obtain ⟨A3, c3, rfl, o1, o2, o3, _⟩ := ZP hown3; have hf3 := hf2.below hb3)
                  | (go_at_call 62; refine Calls.mono (YZ Q g hQg f (actS zs zn) zp A3 _ c3 (l.take 16) w3 hf3 o3 o1 (by have := o2; simp only [maxLen] at this; omega)) ?_; rintro r w4 ⟨rfl, hf4, hg4⟩)
                  | (go_at_call 69; refine Calls.mono (YF Q x hQx f (actS zs zn) zp B 16 c (l.take 16) w4 ((hx2.below hb3).other hg4 (Ne.symm hgx) hQg) (((hB2.to_ (k := 16) (by omega)).keep (.of_below hb3)).grownKeep0 hg4 (fun _ => hBg (by omega))) (by omega) (by omega)) ?_; rintro r w5 ⟨rfl, hx5, hg5⟩))
            go_ret
            rw [hact]
            exact ⟨rfl, hf4.other hg5 hgx hQx, hx5, w4, Z0 (Z8 (Z1 hb2 hb3 hb2.size) _) hg4, hg5⟩
          · have hact : actF ⟨zk, zs, zp, zn, l⟩ f = (progF f (actS zs zn) zp l).2 := by
              unfold actF actP actB
              dsimp only
              rw [if_pos hk6, h13', if_neg (by rw [hbl]; exact hcut)]
            clear hk6
            by_cases hcut1 : 0 < Int.tmod zn 5
            · have hcut2' : ¬ (16 : Int) < m := by omega
              go_wp2_with (first
                    | (at_builtin; refine cloneB _ rfl (.tmp 53) (.tmp 54) rfl _ rfl rfl _ _ _ l rfl hB2 (by omega) ?_; intro v3 w3 hown3 hb3; obtain ⟨A3, c3, rfl, o1, o2, o3, _⟩ := ZP hown3; have hf3 := hf2.below hb3)
                    | (go_at_call 62; refine Calls.mono (YZ Q g hQg f (actS zs zn) zp A3 _ c3 l w3 hf3 o3 o1 (by have := o2; simp only [maxLen] at this; omega)) ?_; rintro r w4 ⟨rfl, hf4, hg4⟩)
                    | (go_at_call 69; refine Calls.mono (YF Q x hQx f (actS zs zn) zp B m c l w4 ((hx2.below hb3).other hg4 (Ne.symm hgx) hQg) ((hB2.keep (.of_below hb3)).grownKeep0 hg4 hBg) (by omega) (by omega)) ?_; rintro r w5 ⟨rfl, hx5, hg5⟩))
              go_ret
              rw [hact]
              exact ⟨rfl, hf4.other hg5 hgx hQx, hx5, w4, Z0 (Z8 (Z1 hb2 hb3 hb2.size) _) hg4, hg5⟩
            · skip
              go_wp2_with (first
                    | (at_builtin; refine cloneB _ rfl (.tmp 53) (.tmp 54) rfl _ rfl rfl _ _ _ l rfl hB2 (by omega) ?_; intro v3 w3 hown3 hb3; obtain ⟨A3, c3, rfl, o1, o2, o3, _⟩ := ZP hown3; have hf3 := hf2.below hb3)
                    | (go_at_call 62; refine Calls.mono (YZ Q g hQg f (actS zs zn) zp A3 _ c3 l w3 hf3 o3 o1 (by have := o2; simp only [maxLen] at this; omega)) ?_; rintro r w4 ⟨rfl, hf4, hg4⟩)
                    | (go_at_call 69; refine Calls.mono (YF Q x hQx f (actS zs zn) zp B m c l w4 ((hx2.below hb3).other hg4 (Ne.symm hgx) hQg) ((hB2.keep (.of_below hb3)).grownKeep0 hg4 hBg) (by omega) (by omega)) ?_; rintro r w5 ⟨rfl, hx5, hg5⟩))
              go_ret
              rw [hact]
              exact ⟨rfl, hf4.other hg5 hgx hQx, hx5, w4, Z0 (Z8 (Z1 hb2 hb3 hb2.size) _) hg4, hg5⟩
      · have hact : actF ⟨zk, zs, zp, zn, l⟩ f = (eraseF f (actS zs zn)).2 := by
          unfold actF
          dsimp only
          rw [if_neg (by omega), if_pos (by omega)]
        clear hsmall hK
        go_wp2_with (first
          | (go_at_call 37; refine Calls.mono (Vc Q g hQg f (actS zs zn) _ hf2) ?_; rintro r w4 ⟨rfl, hf4, hg4⟩)
          | (go_at_call 43; refine Calls.mono (X8 Q x hQx f (actS zs zn) w4 (hx2.other hg4 (Ne.symm hgx) hQg)) ?_; rintro r w5 ⟨rfl, hx5, hg5⟩))
        go_ret
        rw [hact]
        exact ⟨rfl, hf4.other hg5 hgx hQx, hx5, w4, Z0 (Z8 hb2 _) hg4, hg5⟩
      · have hact : actF ⟨zk, zs, zp, zn, l⟩ f = stopF f (((within zn 6 : Nat) : Int) - 1) l := by
          unfold actF
          dsimp only
          rw [if_neg (by omega), if_neg (by omega), if_pos (by omega)]
        clear hsmall hK
        have hw6 := YV zn 6 (by omega)
        go_upto_region 18 with fail
        refine ZD 9 [Is (.pointer (some ⟨g, 0, none⟩)), Is (.pointer (some ⟨g, 0, none⟩)), Is (.pointer (some ⟨g, 0, none⟩)), Is (.pointer (some ⟨bx, 3, none⟩)), Is (.int .i64 zn), Is (.int .i64 ((within zn 6 : Nat) : Int)), Is (.int .i64 (((within zn 6 : Nat) : Int) - 1)), Is (.pointer (some ⟨bx, 4, none⟩)), Is (.slice B m c)]
          [[(1, none)], [(74, some 0)], [(75, some 1)], [(3, none)], [(77, some 3)], [(78, some 4)], [(79, some 5)], [(3, none)], [(81, some 7)]]
          (by kernel_rfl) (by kernel_rfl) (by kernel_rfl) (by kernel_rfl)
          ⟨Zo _, Zo _, Zo _, Zo _, Zo _, Zo _, Zo _, Zo _, Zo _, trivial⟩ ?vc ?fin
        case vc =>
          refine ⟨?_, ?_, ?_, ?_, ?_, ?_, ?_, ?_, ?_, trivial⟩
          · exact Zl rfl (ZF (.inl rfl) fun A W _ h => h.1)
          · refine Zl rfl (Z7 fun A' W hR h => ?_)
            obtain ⟨h74, _⟩ := h
            replace h74 : A'.tmps[74]?.getD undef = _ := h74
            refine ⟨_, W, ?_, Below.refl _ _, rfl⟩
            go_simp
          · refine Zl rfl (Z7 fun A' W hR h => ?_)
            obtain ⟨h75, _⟩ := h
            replace h75 : A'.tmps[75]?.getD undef = _ := h75
            refine ⟨_, W, ?_, Below.refl _ _, rfl⟩
            go_simp
          · refine Zl rfl (Z7 fun A' W hR h => ?_)
            obtain ⟨h3, _⟩ := h
            replace h3 : A'.tmps[3]?.getD undef = _ := h3
            refine ⟨_, W, ?_, Below.refl _ _, rfl⟩
            go_simp
          · refine Zl rfl (Z7 fun A' W hR h => ?_)
            obtain ⟨h77, _⟩ := h
            replace h77 : A'.tmps[77]?.getD undef = _ := h77
            have hc := Keeps.of_below hR _ _ k3
            refine ⟨_, W, ?_, Below.refl _ _, rfl⟩
            go_simp
          · refine Zl rfl (XB rfl Try.func72 rfl (by kernel_rfl) fun A' W hR h => ?_)
            obtain ⟨h78, _⟩ := h
            replace h78 : A'.tmps[78]?.getD undef = _ := h78
            show Calls _ _ #[A'.tmps[78]?.getD undef, _] _ _
            rw [h78]
            refine Calls.mono (YI zn 6 _ _ rfl (by omega) (by omega)) ?_
            rintro r W' ⟨rfl, rfl⟩
            exact ⟨_, rfl, Below.refl _ _, rfl⟩
          · refine Zl rfl (Z7 fun A' W hR h => ?_)
            obtain ⟨h79, _⟩ := h
            replace h79 : A'.tmps[79]?.getD undef = _ := h79
            refine ⟨_, W, ?_, Below.refl _ _, rfl⟩
            go_simp
            all_goals exact IntWalk.i64_in _ (by omega)
          · refine Zl rfl (Z7 fun A' W hR h => ?_)
            obtain ⟨h3, _⟩ := h
            replace h3 : A'.tmps[3]?.getD undef = _ := h3
            refine ⟨_, W, ?_, Below.refl _ _, rfl⟩
            go_simp
          · refine Zl rfl (Z7 fun A' W hR h => ?_)
            obtain ⟨h81, _⟩ := h
            replace h81 : A'.tmps[81]?.getD undef = _ := h81
            have hc := Keeps.of_below hR _ _ k4
            refine ⟨_, W, ?_, Below.refl _ _, rfl⟩
            go_simp
        case fin =>
          intro A' W hd hs hR he hr
          obtain ⟨e0, e1, e2, e3, e4, e5, e6, e7, e8, _⟩ := he
          have hA' := Yn [74, 75, 76, 77, 78, 79, 80, 81, 82] rfl hd hs hr
          clear hd hs hr
          replace e0 : A'.tmps[74]?.getD undef = _ := e0
          replace e1 : A'.tmps[75]?.getD undef = _ := e1
          replace e2 : A'.tmps[76]?.getD undef = _ := e2
          replace e3 : A'.tmps[77]?.getD undef = _ := e3
          replace e4 : A'.tmps[78]?.getD undef = _ := e4
          replace e5 : A'.tmps[79]?.getD undef = _ := e5
          replace e6 : A'.tmps[80]?.getD undef = _ := e6
          replace e7 : A'.tmps[81]?.getD undef = _ := e7
          replace e8 : A'.tmps[82]?.getD undef = _ := e8
          simp only [frameAfter, List.contains_cons, List.contains_nil, Nat.reduceBEq, Bool.or_false, Bool.or_true, Bool.or_self, Bool.false_or, Bool.true_or, Bool.false_eq_true, if_true, if_false, Nat.reduceAdd, e0, e1, e2, e3, e4, e5, e6, e7, e8] at hA'
          subst hA'
          clear e0 e1 e2 e3 e4 e5 e6 e7 e8
          have hf2' := hf2.below hR
          have hx2' := hx2.below hR
          have hb2' := Z1 hb2 hR hb2.size
          go_upto_region 19 with (go_at_call 23; refine Calls.mono (stop_any Q g f (((within zn 6 : Nat) : Int) - 1) B m c l _ hf2' (fun b hb => hQ2 b (by have := hb2'.size; omega)) (by omega) (hB2.keep (.of_below hR)) (by omega)) ?_; rintro r w3 ⟨rfl, hf3, hg3⟩)
          have hx3 := hx2'.other hg3 (Ne.symm hgx) hQg
          have q3 := hg3.cell (Keeps.of_below hR _ _ k3) (fun h => hbg (by injection h))
          have q4 := hg3.cell (Keeps.of_below hR _ _ k4) (fun h => hbg (by injection h))
          have hB3 := (hB2.keep (.of_below hR)).grownKeep0 hg3 hBg
          have hb3 : w.heap.size ≤ w3.heap.size := Nat.le_trans hb2'.size hg3.size
          have hg3 := Z0 (Z8 hb2' (some g)) hg3
          clear hR hb2' hf2' hx2' hB2 hf2 hx2 k3 k4
          refine ZD 7 [Is (.pointer (some ⟨x, 0, none⟩)), Is (.pointer (some ⟨bx, 3, none⟩)), Is (.int .i64 zn), Is (.int .i64 ((within zn 6 : Nat) : Int)), Is (.int .i64 (((within zn 6 : Nat) : Int) - 1)), Is (.pointer (some ⟨bx, 4, none⟩)), Is (.slice B m c)]
            [[(2, none)], [(3, none)], [(85, some 1)], [(86, some 2)], [(87, some 3)], [(3, none)], [(89, some 5)]]
            (by kernel_rfl) (by kernel_rfl) (by kernel_rfl) (by kernel_rfl)
            ⟨Zo _, Zo _, Zo _, Zo _, Zo _, Zo _, Zo _, trivial⟩ ?vc ?fin
          case vc =>
            refine ⟨?_, ?_, ?_, ?_, ?_, ?_, ?_, trivial⟩
            · exact Zl rfl (ZF (.inl rfl) fun A W _ h => h.1)
            · refine Zl rfl (Z7 fun A' W hR h => ?_)
              obtain ⟨h3, _⟩ := h
              replace h3 : A'.tmps[3]?.getD undef = _ := h3
              refine ⟨_, W, ?_, Below.refl _ _, rfl⟩
              go_simp
            · refine Zl rfl (Z7 fun A' W hR h => ?_)
              obtain ⟨h85, _⟩ := h
              replace h85 : A'.tmps[85]?.getD undef = _ := h85
              have hc := Keeps.of_below hR _ _ q3
              refine ⟨_, W, ?_, Below.refl _ _, rfl⟩
              go_simp
            · refine Zl rfl (XB rfl Try.func72 rfl (by kernel_rfl) fun A' W hR h => ?_)
              obtain ⟨h86, _⟩ := h
              replace h86 : A'.tmps[86]?.getD undef = _ := h86
              show Calls _ _ #[A'.tmps[86]?.getD undef, _] _ _
              rw [h86]
              refine Calls.mono (YI zn 6 _ _ rfl (by omega) (by omega)) ?_
              rintro r W' ⟨rfl, rfl⟩
              exact ⟨_, rfl, Below.refl _ _, rfl⟩
            · refine Zl rfl (Z7 fun A' W hR h => ?_)
              obtain ⟨h87, _⟩ := h
              replace h87 : A'.tmps[87]?.getD undef = _ := h87
              refine ⟨_, W, ?_, Below.refl _ _, rfl⟩
              go_simp
              all_goals exact IntWalk.i64_in _ (by omega)
            · refine Zl rfl (Z7 fun A' W hR h => ?_)
              obtain ⟨h3, _⟩ := h
              replace h3 : A'.tmps[3]?.getD undef = _ := h3
              refine ⟨_, W, ?_, Below.refl _ _, rfl⟩
              go_simp
            · refine Zl rfl (Z7 fun A' W hR h => ?_)
              obtain ⟨h89, _⟩ := h
              replace h89 : A'.tmps[89]?.getD undef = _ := h89
              have hc := Keeps.of_below hR _ _ q4
              refine ⟨_, W, ?_, Below.refl _ _, rfl⟩
              go_simp
          case fin =>
            intro A' W hd hs hR he hr
            obtain ⟨e0, e1, e2, e3, e4, e5, e6, _⟩ := he
            have hA' := Yn [84, 85, 86, 87, 88, 89, 90] rfl hd hs hr
            clear hd hs hr
            replace e0 : A'.tmps[84]?.getD undef = _ := e0
            replace e1 : A'.tmps[85]?.getD undef = _ := e1
            replace e2 : A'.tmps[86]?.getD undef = _ := e2
            replace e3 : A'.tmps[87]?.getD undef = _ := e3
            replace e4 : A'.tmps[88]?.getD undef = _ := e4
            replace e5 : A'.tmps[89]?.getD undef = _ := e5
            replace e6 : A'.tmps[90]?.getD undef = _ := e6
            simp only [frameAfter, List.contains_cons, List.contains_nil, Nat.reduceBEq, Bool.or_false, Bool.or_true, Bool.or_self, Bool.false_or, Bool.true_or, Bool.false_eq_true, if_true, if_false, Nat.reduceAdd, e0, e1, e2, e3, e4, e5, e6] at hA'
            subst hA'
            clear e0 e1 e2 e3 e4 e5 e6
            have hf4 := hf3.below hR
            have hx4 := hx3.below hR
            go_wp2_with (go_at_call 24; refine Calls.mono (WQ Q x hQx f (((within zn 6 : Nat) : Int) - 1) B m c l _ hx4 (fun b hb => hQ2 b (by have := hb3; have := hR.size; omega)) (by omega) (hB3.keep (.of_below hR)) (by omega)) ?_; rintro r w5 ⟨rfl, hx5, hg5⟩)
            go_ret
            rw [hact]
            exact ⟨rfl, hf4.other hg5 hgx hQx, hx5, W, Z0 hg3 (Z8 hR _), hg5⟩
      · have hact : actF ⟨zk, zs, zp, zn, l⟩ f = startF f := by
          unfold actF
          dsimp only
          rw [if_neg (by omega), if_neg (by omega), if_neg (by omega)]
        clear hsmall hK
        go_wp2_with (first
          | (go_at_call 25; refine Calls.mono (start_any Q g f _ hf2) ?_; rintro r w4 ⟨rfl, hf4, hg4⟩)
          | (go_at_call 26; refine Calls.mono (Wi Q x f w4 (hx2.other hg4 (Ne.symm hgx) hQg)) ?_; rintro r w5 ⟨rfl, hx5, hg5⟩))
        go_ret
        rw [hact]
        exact ⟨rfl, hf4.other hg5 hgx hQx, hx5, w4, Z0 (Z8 hb2 _) hg4, hg5⟩
    · have h13' : (if Int.tmod zn 13 = 12 then zp else ((within zp 5 : Nat) : Int)) = ((within zp 5 : Nat) : Int) := if_neg h13
      have h13b : (Int.tmod zn 13 == 12) = false := by rw [beq_eq_false_iff_ne]; exact h13
      go_upto_region 5 with (go_at_call 72; with_reducible refine Calls.mono (YI zk 9 _ _ rfl (by omega) (by omega)) ?_; rintro r _ ⟨rfl, rfl⟩)
      generalize hK : ((within zk 9 : Nat) : Int) = K
      have hk : K = 0 ∨ K = 1 ∨ K = 2 ∨ K = 3 ∨ K = 4 ∨ K = 5 ∨ K = 6 ∨ K = 7 ∨ K = 8 := by omega
      clear hk9
      have hsmall : (0 ≤ K ∧ K ≤ 5) → within zk 9 < 6 := fun h => by omega
      rcases hk with rfl | rfl | rfl | rfl | rfl | rfl | rfl | rfl | rfl
      iterate 6
        · have hk6 := hsmall (by omega)
          clear hsmall hK
          by_cases hcut : 0 < Int.tmod zn 5 ∧ 16 < m
          · obtain ⟨hcut1, hcut2⟩ := hcut
            have hcut2' : (16 : Int) < m := by omega
            have hact : actF ⟨zk, zs, zp, zn, l⟩ f = (progF f (actS zs zn) ((within zp 5 : Nat) : Int) (l.take 16)).2 := by
              unfold actF actP actB
              dsimp only
              rw [if_pos hk6, h13', if_pos ⟨hcut1, by omega⟩]
            clear hk6
            go_wp2_with (first
                  | (at_builtin; refine cloneB _ rfl (.tmp 53) (.tmp 54) rfl _ rfl rfl _ _ _ (l.take 16) rfl (hB2.to_ (k := 16) (by omega)) (by omega) ?_; intro v3 w3 hown3 hb3; obtain ⟨A3, c3, rfl, o1, o2, o3, _⟩ := ZP hown3; have hf3 := hf2.below hb3)
                  | (go_at_call 62; refine Calls.mono (YZ Q g hQg f (actS zs zn) ((within zp 5 : Nat) : Int) A3 _ c3 (l.take 16) w3 hf3 o3 o1 (by have := o2; simp only [maxLen] at this; omega)) ?_; rintro r w4 ⟨rfl, hf4, hg4⟩)
                  | (go_at_call 69; refine Calls.mono (YF Q x hQx f (actS zs zn) ((within zp 5 : Nat) : Int) B 16 c (l.take 16) w4 ((hx2.below hb3).other hg4 (Ne.symm hgx) hQg) (((hB2.to_ (k := 16) (by omega)).keep (.of_below hb3)).grownKeep0 hg4 (fun _ => hBg (by omega))) (by omega) (by omega)) ?_; rintro r w5 ⟨rfl, hx5, hg5⟩))
            go_ret
            rw [hact]
            exact ⟨rfl, hf4.other hg5 hgx hQx, hx5, w4, Z0 (Z8 (Z1 hb2 hb3 hb2.size) _) hg4, hg5⟩
          · have hact : actF ⟨zk, zs, zp, zn, l⟩ f = (progF f (actS zs zn) ((within zp 5 : Nat) : Int) l).2 := by
              unfold actF actP actB
              dsimp only
              rw [if_pos hk6, h13', if_neg (by rw [hbl]; exact hcut)]
            clear hk6
            by_cases hcut1 : 0 < Int.tmod zn 5
            · have hcut2' : ¬ (16 : Int) < m := by omega
              go_wp2_with (first
                    | (at_builtin; refine cloneB _ rfl (.tmp 53) (.tmp 54) rfl _ rfl rfl _ _ _ l rfl hB2 (by omega) ?_; intro v3 w3 hown3 hb3; obtain ⟨A3, c3, rfl, o1, o2, o3, _⟩ := ZP hown3; have hf3 := hf2.below hb3)
                    | (go_at_call 62; refine Calls.mono (YZ Q g hQg f (actS zs zn) ((within zp 5 : Nat) : Int) A3 _ c3 l w3 hf3 o3 o1 (by have := o2; simp only [maxLen] at this; omega)) ?_; rintro r w4 ⟨rfl, hf4, hg4⟩)
                    | (go_at_call 69; refine Calls.mono (YF Q x hQx f (actS zs zn) ((within zp 5 : Nat) : Int) B m c l w4 ((hx2.below hb3).other hg4 (Ne.symm hgx) hQg) ((hB2.keep (.of_below hb3)).grownKeep0 hg4 hBg) (by omega) (by omega)) ?_; rintro r w5 ⟨rfl, hx5, hg5⟩))
              go_ret
              rw [hact]
              exact ⟨rfl, hf4.other hg5 hgx hQx, hx5, w4, Z0 (Z8 (Z1 hb2 hb3 hb2.size) _) hg4, hg5⟩
            · skip
              go_wp2_with (first
                    | (at_builtin; refine cloneB _ rfl (.tmp 53) (.tmp 54) rfl _ rfl rfl _ _ _ l rfl hB2 (by omega) ?_; intro v3 w3 hown3 hb3; obtain ⟨A3, c3, rfl, o1, o2, o3, _⟩ := ZP hown3; have hf3 := hf2.below hb3)
                    | (go_at_call 62; refine Calls.mono (YZ Q g hQg f (actS zs zn) ((within zp 5 : Nat) : Int) A3 _ c3 l w3 hf3 o3 o1 (by have := o2; simp only [maxLen] at this; omega)) ?_; rintro r w4 ⟨rfl, hf4, hg4⟩)
                    | (go_at_call 69; refine Calls.mono (YF Q x hQx f (actS zs zn) ((within zp 5 : Nat) : Int) B m c l w4 ((hx2.below hb3).other hg4 (Ne.symm hgx) hQg) ((hB2.keep (.of_below hb3)).grownKeep0 hg4 hBg) (by omega) (by omega)) ?_; rintro r w5 ⟨rfl, hx5, hg5⟩))
              go_ret
              rw [hact]
              exact ⟨rfl, hf4.other hg5 hgx hQx, hx5, w4, Z0 (Z8 (Z1 hb2 hb3 hb2.size) _) hg4, hg5⟩
      · have hact : actF ⟨zk, zs, zp, zn, l⟩ f = (eraseF f (actS zs zn)).2 := by
          unfold actF
          dsimp only
          rw [if_neg (by omega), if_pos (by omega)]
        clear hsmall hK
        go_wp2_with (first
          | (go_at_call 37; refine Calls.mono (Vc Q g hQg f (actS zs zn) _ hf2) ?_; rintro r w4 ⟨rfl, hf4, hg4⟩)
          | (go_at_call 43; refine Calls.mono (X8 Q x hQx f (actS zs zn) w4 (hx2.other hg4 (Ne.symm hgx) hQg)) ?_; rintro r w5 ⟨rfl, hx5, hg5⟩))
        go_ret
        rw [hact]
        exact ⟨rfl, hf4.other hg5 hgx hQx, hx5, w4, Z0 (Z8 hb2 _) hg4, hg5⟩
      · have hact : actF ⟨zk, zs, zp, zn, l⟩ f = stopF f (((within zn 6 : Nat) : Int) - 1) l := by
          unfold actF
          dsimp only
          rw [if_neg (by omega), if_neg (by omega), if_pos (by omega)]
        clear hsmall hK
        have hw6 := YV zn 6 (by omega)
        go_upto_region 18 with fail
        refine ZD 9 [Is (.pointer (some ⟨g, 0, none⟩)), Is (.pointer (some ⟨g, 0, none⟩)), Is (.pointer (some ⟨g, 0, none⟩)), Is (.pointer (some ⟨bx, 3, none⟩)), Is (.int .i64 zn), Is (.int .i64 ((within zn 6 : Nat) : Int)), Is (.int .i64 (((within zn 6 : Nat) : Int) - 1)), Is (.pointer (some ⟨bx, 4, none⟩)), Is (.slice B m c)]
          [[(1, none)], [(74, some 0)], [(75, some 1)], [(3, none)], [(77, some 3)], [(78, some 4)], [(79, some 5)], [(3, none)], [(81, some 7)]]
          (by kernel_rfl) (by kernel_rfl) (by kernel_rfl) (by kernel_rfl)
          ⟨Zo _, Zo _, Zo _, Zo _, Zo _, Zo _, Zo _, Zo _, Zo _, trivial⟩ ?vc ?fin
        case vc =>
          refine ⟨?_, ?_, ?_, ?_, ?_, ?_, ?_, ?_, ?_, trivial⟩
          · exact Zl rfl (ZF (.inl rfl) fun A W _ h => h.1)
          · refine Zl rfl (Z7 fun A' W hR h => ?_)
            obtain ⟨h74, _⟩ := h
            replace h74 : A'.tmps[74]?.getD undef = _ := h74
            refine ⟨_, W, ?_, Below.refl _ _, rfl⟩
            go_simp
          · refine Zl rfl (Z7 fun A' W hR h => ?_)
            obtain ⟨h75, _⟩ := h
            replace h75 : A'.tmps[75]?.getD undef = _ := h75
            refine ⟨_, W, ?_, Below.refl _ _, rfl⟩
            go_simp
          · refine Zl rfl (Z7 fun A' W hR h => ?_)
            obtain ⟨h3, _⟩ := h
            replace h3 : A'.tmps[3]?.getD undef = _ := h3
            refine ⟨_, W, ?_, Below.refl _ _, rfl⟩
            go_simp
          · refine Zl rfl (Z7 fun A' W hR h => ?_)
            obtain ⟨h77, _⟩ := h
            replace h77 : A'.tmps[77]?.getD undef = _ := h77
            have hc := Keeps.of_below hR _ _ k3
            refine ⟨_, W, ?_, Below.refl _ _, rfl⟩
            go_simp
          · refine Zl rfl (XB rfl Try.func72 rfl (by kernel_rfl) fun A' W hR h => ?_)
            obtain ⟨h78, _⟩ := h
            replace h78 : A'.tmps[78]?.getD undef = _ := h78
            show Calls _ _ #[A'.tmps[78]?.getD undef, _] _ _
            rw [h78]
            refine Calls.mono (YI zn 6 _ _ rfl (by omega) (by omega)) ?_
            rintro r W' ⟨rfl, rfl⟩
            exact ⟨_, rfl, Below.refl _ _, rfl⟩
          · refine Zl rfl (Z7 fun A' W hR h => ?_)
            obtain ⟨h79, _⟩ := h
            replace h79 : A'.tmps[79]?.getD undef = _ := h79
            refine ⟨_, W, ?_, Below.refl _ _, rfl⟩
            go_simp
            all_goals exact IntWalk.i64_in _ (by omega)
          · refine Zl rfl (Z7 fun A' W hR h => ?_)
            obtain ⟨h3, _⟩ := h
            replace h3 : A'.tmps[3]?.getD undef = _ := h3
            refine ⟨_, W, ?_, Below.refl _ _, rfl⟩
            go_simp
          · refine Zl rfl (Z7 fun A' W hR h => ?_)
            obtain ⟨h81, _⟩ := h
            replace h81 : A'.tmps[81]?.getD undef = _ := h81
            have hc := Keeps.of_below hR _ _ k4
            refine ⟨_, W, ?_, Below.refl _ _, rfl⟩
            go_simp
        case fin =>
          intro A' W hd hs hR he hr
          obtain ⟨e0, e1, e2, e3, e4, e5, e6, e7, e8, _⟩ := he
          have hA' := Yn [74, 75, 76, 77, 78, 79, 80, 81, 82] rfl hd hs hr
          clear hd hs hr
          replace e0 : A'.tmps[74]?.getD undef = _ := e0
          replace e1 : A'.tmps[75]?.getD undef = _ := e1
          replace e2 : A'.tmps[76]?.getD undef = _ := e2
          replace e3 : A'.tmps[77]?.getD undef = _ := e3
          replace e4 : A'.tmps[78]?.getD undef = _ := e4
          replace e5 : A'.tmps[79]?.getD undef = _ := e5
          replace e6 : A'.tmps[80]?.getD undef = _ := e6
          replace e7 : A'.tmps[81]?.getD undef = _ := e7
          replace e8 : A'.tmps[82]?.getD undef = _ := e8
          simp only [frameAfter, List.contains_cons, List.contains_nil, Nat.reduceBEq, Bool.or_false, Bool.or_true, Bool.or_self, Bool.false_or, Bool.true_or, Bool.false_eq_true, if_true, if_false, Nat.reduceAdd, e0, e1, e2, e3, e4, e5, e6, e7, e8] at hA'
          subst hA'
          clear e0 e1 e2 e3 e4 e5 e6 e7 e8
          have hf2' := hf2.below hR
          have hx2' := hx2.below hR
          have hb2' := Z1 hb2 hR hb2.size
          go_upto_region 19 with (go_at_call 23; refine Calls.mono (stop_any Q g f (((within zn 6 : Nat) : Int) - 1) B m c l _ hf2' (fun b hb => hQ2 b (by have := hb2'.size; omega)) (by omega) (hB2.keep (.of_below hR)) (by omega)) ?_; rintro r w3 ⟨rfl, hf3, hg3⟩)
          have hx3 := hx2'.other hg3 (Ne.symm hgx) hQg
          have q3 := hg3.cell (Keeps.of_below hR _ _ k3) (fun h => hbg (by injection h))
          have q4 := hg3.cell (Keeps.of_below hR _ _ k4) (fun h => hbg (by injection h))
          have hB3 := (hB2.keep (.of_below hR)).grownKeep0 hg3 hBg
          have hb3 : w.heap.size ≤ w3.heap.size := Nat.le_trans hb2'.size hg3.size
          have hg3 := Z0 (Z8 hb2' (some g)) hg3
          clear hR hb2' hf2' hx2' hB2 hf2 hx2 k3 k4
          refine ZD 7 [Is (.pointer (some ⟨x, 0, none⟩)), Is (.pointer (some ⟨bx, 3, none⟩)), Is (.int .i64 zn), Is (.int .i64 ((within zn 6 : Nat) : Int)), Is (.int .i64 (((within zn 6 : Nat) : Int) - 1)), Is (.pointer (some ⟨bx, 4, none⟩)), Is (.slice B m c)]
            [[(2, none)], [(3, none)], [(85, some 1)], [(86, some 2)], [(87, some 3)], [(3, none)], [(89, some 5)]]
            (by kernel_rfl) (by kernel_rfl) (by kernel_rfl) (by kernel_rfl)
            ⟨Zo _, Zo _, Zo _, Zo _, Zo _, Zo _, Zo _, trivial⟩ ?vc ?fin
          case vc =>
            refine ⟨?_, ?_, ?_, ?_, ?_, ?_, ?_, trivial⟩
            · exact Zl rfl (ZF (.inl rfl) fun A W _ h => h.1)
            · refine Zl rfl (Z7 fun A' W hR h => ?_)
              obtain ⟨h3, _⟩ := h
              replace h3 : A'.tmps[3]?.getD undef = _ := h3
              refine ⟨_, W, ?_, Below.refl _ _, rfl⟩
              go_simp
            · refine Zl rfl (Z7 fun A' W hR h => ?_)
              obtain ⟨h85, _⟩ := h
              replace h85 : A'.tmps[85]?.getD undef = _ := h85
              have hc := Keeps.of_below hR _ _ q3
              refine ⟨_, W, ?_, Below.refl _ _, rfl⟩
              go_simp
            · refine Zl rfl (XB rfl Try.func72 rfl (by kernel_rfl) fun A' W hR h => ?_)
              obtain ⟨h86, _⟩ := h
              replace h86 : A'.tmps[86]?.getD undef = _ := h86
              show Calls _ _ #[A'.tmps[86]?.getD undef, _] _ _
              rw [h86]
              refine Calls.mono (YI zn 6 _ _ rfl (by omega) (by omega)) ?_
              rintro r W' ⟨rfl, rfl⟩
              exact ⟨_, rfl, Below.refl _ _, rfl⟩
            · refine Zl rfl (Z7 fun A' W hR h => ?_)
              obtain ⟨h87, _⟩ := h
              replace h87 : A'.tmps[87]?.getD undef = _ := h87
              refine ⟨_, W, ?_, Below.refl _ _, rfl⟩
              go_simp
              all_goals exact IntWalk.i64_in _ (by omega)
            · refine Zl rfl (Z7 fun A' W hR h => ?_)
              obtain ⟨h3, _⟩ := h
              replace h3 : A'.tmps[3]?.getD undef = _ := h3
              refine ⟨_, W, ?_, Below.refl _ _, rfl⟩
              go_simp
            · refine Zl rfl (Z7 fun A' W hR h => ?_)
              obtain ⟨h89, _⟩ := h
              replace h89 : A'.tmps[89]?.getD undef = _ := h89
              have hc := Keeps.of_below hR _ _ q4
              refine ⟨_, W, ?_, Below.refl _ _, rfl⟩
              go_simp
          case fin =>
            intro A' W hd hs hR he hr
            obtain ⟨e0, e1, e2, e3, e4, e5, e6, _⟩ := he
            have hA' := Yn [84, 85, 86, 87, 88, 89, 90] rfl hd hs hr
            clear hd hs hr
            replace e0 : A'.tmps[84]?.getD undef = _ := e0
            replace e1 : A'.tmps[85]?.getD undef = _ := e1
            replace e2 : A'.tmps[86]?.getD undef = _ := e2
            replace e3 : A'.tmps[87]?.getD undef = _ := e3
            replace e4 : A'.tmps[88]?.getD undef = _ := e4
            replace e5 : A'.tmps[89]?.getD undef = _ := e5
            replace e6 : A'.tmps[90]?.getD undef = _ := e6
            simp only [frameAfter, List.contains_cons, List.contains_nil, Nat.reduceBEq, Bool.or_false, Bool.or_true, Bool.or_self, Bool.false_or, Bool.true_or, Bool.false_eq_true, if_true, if_false, Nat.reduceAdd, e0, e1, e2, e3, e4, e5, e6] at hA'
            subst hA'
            clear e0 e1 e2 e3 e4 e5 e6
            have hf4 := hf3.below hR
            have hx4 := hx3.below hR
            go_wp2_with (go_at_call 24; refine Calls.mono (WQ Q x hQx f (((within zn 6 : Nat) : Int) - 1) B m c l _ hx4 (fun b hb => hQ2 b (by have := hb3; have := hR.size; omega)) (by omega) (hB3.keep (.of_below hR)) (by omega)) ?_; rintro r w5 ⟨rfl, hx5, hg5⟩)
            go_ret
            rw [hact]
            exact ⟨rfl, hf4.other hg5 hgx hQx, hx5, W, Z0 hg3 (Z8 hR _), hg5⟩
      · have hact : actF ⟨zk, zs, zp, zn, l⟩ f = startF f := by
          unfold actF
          dsimp only
          rw [if_neg (by omega), if_neg (by omega), if_neg (by omega)]
        clear hsmall hK
        go_wp2_with (first
          | (go_at_call 25; refine Calls.mono (start_any Q g f _ hf2) ?_; rintro r w4 ⟨rfl, hf4, hg4⟩)
          | (go_at_call 26; refine Calls.mono (Wi Q x f w4 (hx2.other hg4 (Ne.symm hgx) hQg)) ?_; rintro r w5 ⟨rfl, hx5, hg5⟩))
        go_ret
        rw [hact]
        exact ⟨rfl, hf4.other hg5 hgx hQx, hx5, w4, Z0 (Z8 hb2 _) hg4, hg5⟩
