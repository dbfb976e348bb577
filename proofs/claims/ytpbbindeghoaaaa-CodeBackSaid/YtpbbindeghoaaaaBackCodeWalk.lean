/- CodeBack: the walk. -/
import Derived.Test.YtpbbindeghoaaaaChecked
import Derived.Test.YtpbbindeghoaaaaCodeKnown
import Derived.Test.YtpbbindeghoaaaaReadBack
import Derived.Test.YtpbbindeghoaaaaWritesWalk
import Derived.Deep.DeepCutAuto
namespace Go.Proofs.Ytpbbindeghoaaaa
open Go.RowKit

theorem elem_at {w : World} {A : Option Addr} {n j : Nat} {zs : List Int} (hA : Vs w A n (zs.map (Value.int .i64))) (hl : zs.length = n) (hj : j < n) :
    ∃ b o z, A = some ⟨b, o, none⟩ ∧ w.cell? ⟨b, o + j, none⟩ = some (.int .i64 z) ∧ Hid (zs[j]? = some z) := by
  obtain ⟨b, o, e, hc⟩ := hA.at_ hj
  refine ⟨b, o, zs[j]'(by omega), e, ?_, List.getElem?_eq_getElem _⟩
  rw [hc]
  simp
theorem elem_atS {w : World} {A : Option Addr} {n j : Nat} {ss : List (List UInt8)} (hA : Vs w A n (ss.map fun s => .string ⟨s.toArray⟩)) (hl : ss.length = n) (hj : j < n) :
    ∃ b o z, A = some ⟨b, o, none⟩ ∧ w.cell? ⟨b, o + j, none⟩ = some (.string ⟨(z : List UInt8).toArray⟩) ∧ Hid (ss[j]? = some z) := by
  obtain ⟨b, o, e, hc⟩ := hA.at_ hj
  refine ⟨b, o, ss[j]'(by omega), e, ?_, List.getElem?_eq_getElem _⟩
  rw [hc]
  simp
theorem foldI {zs : List Int} {j : Nat} {z : Int} {s : RS} {l : List UInt8} {e : Int} {ok : Bool} (hz : zs[j]? = some z) (h : (zs.take j).foldl intStep s = (l, e, ok)) :
    (zs.take (j + 1)).foldl intStep s = ((taken l e 8).2.1, (taken l e 8).2.2, (wrap64 (leN (taken l e 8).1 : Int) == z) && ok) := by
  rw [List.take_add_one, hz, Option.toList_some, List.foldl_append, h]
  rfl
theorem foldT {zs : List (List UInt8)} {j : Nat} {z : List UInt8} {s : RS} {l : List UInt8} {e : Int} {ok : Bool} (hz : zs[j]? = some z) (h : (zs.take j).foldl txtStep s = (l, e, ok)) :
    (zs.take (j + 1)).foldl txtStep s = ((textOf l e).2.1, (textOf l e).2.2, ((textOf l e).1 == z) && ok) := by
  rw [List.take_add_one, hz, Option.toList_some, List.foldl_append, h]
  rfl
theorem str_ne {a b : List UInt8} (h : a ≠ b) : ((⟨a.toArray⟩ : ByteArray) == ⟨b.toArray⟩) = false := by
  show (a.toArray == b.toArray) = false
  rw [beq_eq_false_iff_ne]
  intro e
  exact h (by simpa using e)
theorem wroteI {zs : List Int} {j : Nat} {z : Int} (h : zs[j]? = some z) (p : List UInt8) : p ++ (zs.take (j + 1)).flatMap le8 = (p ++ (zs.take j).flatMap le8) ++ le8 z := by
  rw [List.take_add_one, h]
  simp
theorem wroteT {zs : List (List UInt8)} {j : Nat} {z : List UInt8} (h : zs[j]? = some z) (p : List UInt8) : p ++ (zs.take (j + 1)).flatMap textBytes = (p ++ (zs.take j).flatMap textBytes) ++ textBytes z := by
  rw [List.take_add_one, h]
  simp

def cbS29t (g b o n c j : Nat) (V : Int) (ok : Bool) : List SPred :=
  [IsL (.pointer (some ⟨g, 0, none⟩)), IsL (.int .i64 (V)), IsL (.slice (some ⟨b, o, none⟩) n c), IsL (.int .i64 (j : Int)), IsL (.pointer (some ⟨b, o + j, none⟩)), IsL (.int .i64 (V)), IsL (.bool true), IsL (.bool true), IsL (.bool ok), IsL (.bool ok), IsL (.bool ok)]
theorem cbS29t_mono (g b o n c j : Nat) (V : Int) (ok : Bool) : MonoAllL (cbS29t g b o n c j V ok) := ⟨mono_isL _, mono_isL _, mono_isL _, mono_isL _, mono_isL _, mono_isL _, mono_isL _, mono_isL _, mono_isL _, mono_isL _, mono_isL _, trivial⟩
def cbS33t (g b o m d j : Nat) (V : List UInt8) (ok : Bool) : List SPred :=
  [IsL (.pointer (some ⟨g, 0, none⟩)), IsL (.string ⟨(V).toArray⟩), IsL (.slice (some ⟨b, o, none⟩) m d), IsL (.int .i64 (j : Int)), IsL (.pointer (some ⟨b, o + j, none⟩)), IsL (.string ⟨(V).toArray⟩), IsL (.bool true), IsL (.bool true), IsL (.bool ok), IsL (.bool ok), IsL (.bool ok)]
theorem cbS33t_mono (g b o m d j : Nat) (V : List UInt8) (ok : Bool) : MonoAllL (cbS33t g b o m d j V ok) := ⟨mono_isL _, mono_isL _, mono_isL _, mono_isL _, mono_isL _, mono_isL _, mono_isL _, mono_isL _, mono_isL _, mono_isL _, mono_isL _, trivial⟩
def cbS29f (g b o n c j : Nat) (V z : Int) (ok : Bool) : List SPred :=
  [IsL (.pointer (some ⟨g, 0, none⟩)), IsL (.int .i64 (V)), IsL (.slice (some ⟨b, o, none⟩) n c), IsL (.int .i64 (j : Int)), IsL (.pointer (some ⟨b, o + j, none⟩)), IsL (.int .i64 (z)), IsL (.bool false), IsL (.bool false), IsL undef, IsL (.bool false), IsL (.bool false)]
theorem cbS29f_mono (g b o n c j : Nat) (V z : Int) (ok : Bool) : MonoAllL (cbS29f g b o n c j V z ok) := ⟨mono_isL _, mono_isL _, mono_isL _, mono_isL _, mono_isL _, mono_isL _, mono_isL _, mono_isL _, mono_isL _, mono_isL _, mono_isL _, trivial⟩
def cbS33f (g b o m d j : Nat) (V z : List UInt8) (ok : Bool) : List SPred :=
  [IsL (.pointer (some ⟨g, 0, none⟩)), IsL (.string ⟨(V).toArray⟩), IsL (.slice (some ⟨b, o, none⟩) m d), IsL (.int .i64 (j : Int)), IsL (.pointer (some ⟨b, o + j, none⟩)), IsL (.string ⟨(z).toArray⟩), IsL (.bool false), IsL (.bool false), IsL undef, IsL (.bool false), IsL (.bool false)]
theorem cbS33f_mono (g b o m d j : Nat) (V z : List UInt8) (ok : Bool) : MonoAllL (cbS33f g b o m d j V z ok) := ⟨mono_isL _, mono_isL _, mono_isL _, mono_isL _, mono_isL _, mono_isL _, mono_isL _, mono_isL _, mono_isL _, mono_isL _, mono_isL _, trivial⟩

set_option maxRecDepth 100000 in
theorem codeBack_none (A : Option Addr) (n c : Nat) (S : Option Addr) (m d : Nat) (w : World) (hn : 20 < n ∨ 10 < m) (hn2 : n ≤ 9223372036854775807) (hm2 : m ≤ 9223372036854775807) :
    Calls Try.prog 7 #[.slice A n c, .slice S m d] w fun e w' => e = .returned (.bool true) ∧ Below w.heap.size w w' := by
  by_cases h : 20 < n
  all_goals
    have hm : 20 < n ∨ 10 < m := hn
    first
      | (have h3 : (20 : Int) < n := by omega)
      | (have h4 : (10 : Int) < m := by omega)
    go_enter Try.func7, Try.ntmps7
    go_wp2_with (go_at_call 10; refine Calls.mono (known_any _) ?_; rintro e w1 ⟨rfl, hb1⟩)
    go_ret
    exact ⟨rfl, hb1⟩

set_option maxRecDepth 100000 in
set_option maxHeartbeats 8000000 in
theorem codeBack_walk (A : Option Addr) (n c : Nat) (zs : List Int) (S : Option Addr) (m d : Nat) (ss : List (List UInt8)) (w : World) (hA0 : Vs w A n (zs.map (Value.int .i64))) (hc0 : n ≤ c) (hc2 : c ≤ 9223372036854775807) (hzb : ∀ z ∈ zs, -9223372036854775808 ≤ z ∧ z ≤ 9223372036854775807)
    (hS0 : Vs w S m (ss.map fun s => .string ⟨s.toArray⟩)) (hd0 : m ≤ d) (hd2 : d ≤ 9223372036854775807) (hsb : ∀ s ∈ ss, s.length ≤ 9223372036854775807) (hn20 : n ≤ 20) (hm10 : m ≤ 10) :
    Calls Try.prog 7 #[.slice A n c, .slice S m d] w fun e w' => e = .returned (.bool true) ∧ Below w.heap.size w w' := by
  have hzl : Hid (zs.length = n) := by have := hA0.1; rw [List.length_map] at this; exact this
  have hsl : Hid (ss.length = m) := by have := hS0.1; rw [List.length_map] at this; exact this
  have hA := hA0
  have hS := hS0
  clear hA0 hS0
  have hn20' : (n : Int) ≤ 20 := by omega
  have hm10' : (m : Int) ≤ 10 := by omega
  go_enter Try.func7, Try.ntmps7
  go_upto_region 6 with (first
    | (go_at_call 10; refine Calls.mono (known_any _) ?_; rintro e w1 ⟨rfl, hb1⟩)
    | (go_at_call 13; refine Calls.mono (codeByte_any none 0 0 [] (n : Int) _ (Bs.nil _ _) (by omega) (by omega) (by omega)) ?_; rintro e w2 ⟨v2, rfl, hown2, hb2⟩; obtain ⟨B2, c2, rfl, q1, q2, q3, _⟩ := own_slice hown2))
  have hb2w := below_two hb1 hb2
  have hB2 : Bs w2 B2 (0 + 1) [i64byte (n : Int) 0] := q3
  have hq2 : c2 ≤ 9223372036854775807 := by simpa [maxLen] using q2
  clear hown2 hb1 hb2 q2 q3
  go_wp2_with fail
  go_loopw [5, 6] (fun v i wr => ∃ (j : Nat) (B : Option Addr) (N cb : Nat), j ≤ n ∧ i = .int .i64 j ∧ v = .slice B N cb ∧ Bs wr B N ([i64byte (n : Int) 0] ++ (zs.take j).flatMap le8) ∧ N ≤ cb ∧ cb ≤ 9223372036854775807 ∧ Below w.heap.size w wr ∧ 0 < N ∧ N ≤ 1 + 8 * j) (fun _ i _ => n - (intOf i).toNat)
  case atStart => exact ⟨0, B2, _, c2, by omega, rfl, rfl, hB2, by omega, hq2, hb2w, by omega, by omega⟩
  case round =>
    obtain ⟨j, B, N, cb, hj, rfl, rfl, hB, hcb, hcb2, hbr, hN0, hN⟩ := hrel
    by_cases hlt : j < n
    · have hjn : (j : Int) < n := by omega
      have hj0 : (0 : Int) ≤ j := by omega
      obtain ⟨b, o, z, rfl, cz, hz⟩ := elem_at hA hzl.out hlt
      have hzb := hzb z (List.mem_of_getElem? hz.out)
      have cz := Keeps.of_below hbr _ _ cz
      have hw' := Lib.hid (wroteI hz.out [i64byte (n : Int) 0])
      go_wp2_with (go_at_call 11; refine Calls.mono (codeInt_any _ _ _ _ z _ hB (by omega) hzb) ?_; rintro e w3 ⟨v3, rfl, hown3, hb3⟩; obtain ⟨B3, c3, rfl, r1, r2, r3, _⟩ := own_slice hown3)
      go_roundw
      case rel => exact ⟨j + 1, _, _, _, by omega, by go_num, rfl, by rw [hw'.out]; exact r3, r1, by simpa [maxLen] using r2, below_two hbr hb3, by omega, by omega⟩
      case measure => simp [intOf]; omega
    · obtain rfl : n = j := by omega
      rw [List.take_of_length_le (by rw [hzl.out]; exact Nat.le_refl _)] at hB
      clear hB2 hb2w
      go_wp2_with fail
      go_loopw [5, 7] (fun v i wr => ∃ (i' : Nat) (B : Option Addr) (N cb : Nat), i' ≤ m ∧ i = .int .i64 i' ∧ v = .slice B N cb ∧ Bs wr B N ([i64byte (n : Int) 0] ++ zs.flatMap le8 ++ (ss.take i').flatMap textBytes) ∧ N ≤ cb ∧ cb ≤ 9223372036854775807 ∧ Below w.heap.size w wr ∧ 0 < N ∧ N ≤ 1 + 8 * n + 202 * i' ∧ ∀ s ∈ ss.take i', s.length ≤ 65535) (fun _ i _ => m - (intOf i).toNat)
      case atStart => exact ⟨0, B, N, cb, by omega, rfl, rfl, by simpa using hB, hcb, hcb2, hbr, hN0, by omega, fun s hs => by simp at hs⟩
      case round =>
        clear hB hcb hcb2 hbr hN0 hN hlt hj
        obtain ⟨j, B, N, cb, hj, rfl, rfl, hB, hcb, hcb2, hbr, hN0, hN, hs200⟩ := hrel
        by_cases hlt : j < m
        · have hjn : (j : Int) < m := by omega
          have hj0 : (0 : Int) ≤ j := by omega
          obtain ⟨b, o, z, rfl, cz, hz⟩ := elem_atS hS hsl.out hlt
          have hzz := size_str z
          have cz := Keeps.of_below hbr _ _ cz
          by_cases h2 : 200 < z.length
          · have h2' : (200 : Int) < z.length := by omega
            have hzb2 := hsb z (List.mem_of_getElem? hz.out)
            go_wp2_with fail
            go_ret
            exact ⟨rfl, hbr⟩
          · have h2' : ¬ (200 : Int) < z.length := by omega
            have hw' := Lib.hid (wroteT hz.out ([i64byte (n : Int) 0] ++ zs.flatMap le8))
            have htl : Hid ((textBytes z).length = z.length + 2) := by show (textBytes z).length = z.length + 2; rw [length_textBytes, txt_short z (by omega)]
            go_wp2_with (go_at_call 15; refine Calls.mono (codeText_any _ _ _ _ z _ hB (by omega) hcb hcb2 (by omega)) ?_; rintro e w3 ⟨v3, rfl, hown3, hb3⟩; rw [htl.out] at hown3; obtain ⟨B3, c3, rfl, r1, r2, r3, _⟩ := own_slice hown3)
            go_roundw
            case rel =>
              refine ⟨j + 1, _, _, _, by omega, by go_num, rfl, by rw [hw'.out]; exact r3, r1, by simpa [maxLen] using r2, below_two hbr hb3, by omega, by omega, fun s hs => ?_⟩
              rw [List.take_add_one, hz.out, Option.toList_some, List.mem_append] at hs
              rcases hs with hs | hs
              · exact hs200 s hs
              · rw [List.mem_singleton] at hs
                subst hs
                omega
            case measure => simp [intOf]; omega
        · obtain rfl : m = j := by omega
          rw [List.take_of_length_le (by rw [hsl.out]; exact Nat.le_refl _)] at hB hs200
          have hB : Bs wr B N (wrote n zs ss) := hB
          have hbB := hbr
          clear hbr
          obtain ⟨wb, hwb⟩ : ∃ wb, wb = wr := ⟨_, rfl⟩
          subst hwb
          have hA := hA.keep (.of_below hbB)
          have hS := hS.keep (.of_below hbB)
          go_wp2_with fail
          go_loopw [8] (fun i wr' => ∃ (k : Nat), k ≤ 3 ∧ i = .int .i64 k ∧ Below wb.heap.size wb wr') (fun i _ => 3 - (intOf i).toNat)
          case atStart => exact ⟨0, by omega, rfl, Below.refl _ _⟩
          case round =>
            clear hlt hj
            obtain ⟨k, hk, rfl, hbk⟩ := hrel
            have hX := hB.below hbk
            have hbX := hbk
            have hk4 : k = 0 ∨ k = 1 ∨ k = 2 ∨ k = 3 := by omega
            clear hk
            rcases hk4 with rfl | rfl | rfl | rfl
            · go_upto_region 24 with fail
              go_upto_region 25 with (go_at_call 18; refine Calls.mono (new_any _ _ _ _ _ hX (by omega)) ?_; rintro e w5 ⟨g, rfl, hg1, hg2, cr5, hb5⟩)
              have hgw : wb.heap.size ≤ g := Nat.le_trans hbX.size hg1
              have hb5w := below_two hbX hb5
              clear hb5 hX
              go_upto_region 26 with (go_at_call 20; refine Calls.mono (readByte_any g _ 0 _ cr5) ?_; rintro e w6 ⟨rfl, cr6, gr6⟩)
              have hb6w := below_grown hb5w gr6 hb5w.size hgw
              have hst0 : Hid (byteStart (wrote n zs ss) n = ((taken (wrote n zs ss) 0 1).2.1, (taken (wrote n zs ss) 0 1).2.2, ((leN (taken (wrote n zs ss) 0 1).1 : Int) == (n : Int)))) := rfl
              generalize (taken (wrote n zs ss) 0 1).2.1 = l0 at cr6 hst0
              generalize (taken (wrote n zs ss) 0 1).2.2 = e0 at cr6 hst0
              generalize ((leN (taken (wrote n zs ss) 0 1).1 : Int) == (n : Int)) = ok0 at hst0 ⊢
              clear gr6 hb5w cr5
              go_wp2_with fail
              go_loopw [11, 12] (fun okv i wr => ∃ (j : Nat) (l : List UInt8) (e : Int) (ok : Bool), j ≤ n ∧ i = .int .i64 j ∧ okv = .bool ok ∧ Below wb.heap.size wb wr ∧ CR wr g l e ∧ Hid ((zs.take j).foldl intStep (byteStart (wrote n zs ss) n) = (l, e, ok))) (fun _ i _ => n - (intOf i).toNat)
              case atStart => exact ⟨0, l0, e0, ok0, by omega, rfl, rfl, hb6w, cr6, hst0⟩
              case round =>
                obtain ⟨j, l, e, ok, hj, rfl, rfl, hbr, hcr, hst⟩ := hrel
                by_cases hlt : j < n
                · have hjn : (j : Int) < n := by omega
                  have hj0 : (0 : Int) ≤ j := by omega
                  obtain ⟨b, o, z, rfl, cz, hz⟩ := elem_at hA hzl.out hlt
                  have hst' := Lib.hid (foldI hz.out hst.out)
                  clear hst
                  generalize hV : wrap64 (leN (taken l e 8).1 : Int) = V at hst'
                  have HV := Lib.hid hV
                  clear hV
                  by_cases hvz : V = z
                  · have hne := hvz
                    rw [show ((V == z) && ok) = ok by rw [hvz, beq_self_eq_true, Bool.true_and]] at hst'
                    go_upto_region 29 with fail
                    subst hvz
                    refine wp_region_L (SLL (cbS29t g b o n c j V ok)) (fun L W => Below wb.heap.size wb W ∧ CR W g (if L 1 = true then (taken l e 8).2.1 else l) (if L 1 = true then (taken l e 8).2.2 else e))
                      [[(10, none)], [(90, some 0)], [(0, none)], [(12, none)], [(92, some 2), (93, some 3)], [(94, some 4)], [(91, some 1), (95, some 5)], [(96, some 6)], [(97, some 7), (11, none)], [(97, some 7), (98, some 8)], [(99, some 9)]]
                      (by kernel_rfl) (by kernel_rfl) (by kernel_rfl) ?start ?vc ?fin
                    case vc =>
                      refine ⟨?_, ?_, ?_, ?_, ?_, ?_, ?_, ?_, ?_, ?_, ?_, trivial⟩
                      · refine vl_of (cbS29t_mono g b o n c j V ok) (fun L W W' hb h => ⟨below_then h.1 hb h.1.size, h.2.below hb⟩) fun L W0 hc hl hp hW => ?_
                        exact vf_none rfl (f_mov (.inl rfl) fun A W _ h => h.1)
                      · refine vl_call (fun L A W _ => want_none rfl A) rfl Try.func19 rfl (by kernel_rfl) fun L A' W hc hl hp hW h => ?_
                        obtain ⟨h90, _⟩ := h
                        replace h90 : A'.tmps[90]?.getD undef = _ := h90
                        show Calls _ _ #[A'.tmps[90]?.getD undef] _ _
                        rw [h90]
                        have hcr := hW.2
                        rw [hl] at hcr
                        simp only [Bool.false_eq_true, if_false] at hcr
                        refine Calls.mono (readInt_any g _ _ _ hcr) ?_
                        rintro r W' ⟨he, cr, gr⟩
                        rw [HV.out] at he
                        subst he
                        refine ⟨_, rfl, ⟨below_grown hW.1 gr hW.1.size hgw, ?_⟩, ⟨pres_is _, pres_is _, pres_is _, pres_is _, pres_is _, pres_is _, pres_is _, pres_is _, pres_is _, pres_is _, pres_is _, trivial⟩, rfl⟩
                        have h1' : upd L 1 1 = true := rfl
                        rw [h1']
                        simp only [if_true]
                        exact cr
                      · refine vl_of (cbS29t_mono g b o n c j V ok) (fun L W W' hb h => ⟨below_then h.1 hb h.1.size, h.2.below hb⟩) fun L W0 hc hl hp hW => ?_
                        exact vf_none rfl (f_mov (.inl rfl) fun A W _ h => h.1)
                      · refine vl_of (cbS29t_mono g b o n c j V ok) (fun L W W' hb h => ⟨below_then h.1 hb h.1.size, h.2.below hb⟩) fun L W0 hc hl hp hW => ?_
                        exact vf_none rfl (f_mov (.inl rfl) fun A W _ h => h.1)
                      · refine vl_of (cbS29t_mono g b o n c j V ok) (fun L W W' hb h => ⟨below_then h.1 hb h.1.size, h.2.below hb⟩) fun L W0 hc hl hp hW => ?_
                        refine vf_none rfl (f_run fun A' W hR h => ?_)
                        obtain ⟨h92, h93, _⟩ := h
                        replace h92 : A'.tmps[92]?.getD undef = _ := h92
                        replace h93 : A'.tmps[93]?.getD undef = _ := h93
                        refine ⟨_, W, ?_, Below.refl _ _, rfl⟩
                        go_simp
                        all_goals omega
                      · refine vl_of (cbS29t_mono g b o n c j V ok) (fun L W W' hb h => ⟨below_then h.1 hb h.1.size, h.2.below hb⟩) fun L W0 hc hl hp hW => ?_
                        refine vf_none rfl (f_run fun A' W hR h => ?_)
                        obtain ⟨h94, _⟩ := h
                        replace h94 : A'.tmps[94]?.getD undef = _ := h94
                        have hc := Keeps.of_below (below_then hW.1 hR hW.1.size) _ _ cz
                        refine ⟨_, W, ?_, Below.refl _ _, rfl⟩
                        go_simp
                      · refine vl_of (cbS29t_mono g b o n c j V ok) (fun L W W' hb h => ⟨below_then h.1 hb h.1.size, h.2.below hb⟩) fun L W0 hc hl hp hW => ?_
                        refine vf_none rfl (f_run fun A' W hR h => ?_)
                        obtain ⟨h91, h95, _⟩ := h
                        replace h91 : A'.tmps[91]?.getD undef = _ := h91
                        replace h95 : A'.tmps[95]?.getD undef = _ := h95
                        refine ⟨_, W, ?_, Below.refl _ _, rfl⟩
                        go_simp
                      · refine vl_of (cbS29t_mono g b o n c j V ok) (fun L W W' hb h => ⟨below_then h.1 hb h.1.size, h.2.below hb⟩) fun L W0 hc hl hp hW => ?_
                        exact vf_none rfl (f_mov (.inl rfl) fun A W _ h => h.1)
                      · refine vl_of (cbS29t_mono g b o n c j V ok) (fun L W W' hb h => ⟨below_then h.1 hb h.1.size, h.2.below hb⟩) fun L W0 hc hl hp hW => ?_
                        exact vf_yes rfl rfl (fun A W _ h => h.1) (f_mov (.inl rfl) fun A W _ h => h.2.1)
                      · refine vl_of (cbS29t_mono g b o n c j V ok) (fun L W W' hb h => ⟨below_then h.1 hb h.1.size, h.2.below hb⟩) fun L W0 hc hl hp hW => ?_
                        refine vf_none rfl (f_run fun A' W hR h => ?_)
                        obtain ⟨h97, h98, _⟩ := h
                        replace h97 : A'.tmps[97]?.getD undef = _ := h97
                        replace h98 : A'.tmps[98]?.getD undef = _ := h98
                        refine ⟨_, W, ?_, Below.refl _ _, rfl⟩
                        go_simp
                      · refine vl_of (cbS29t_mono g b o n c j V ok) (fun L W W' hb h => ⟨below_then h.1 hb h.1.size, h.2.below hb⟩) fun L W0 hc hl hp hW => ?_
                        exact vf_none rfl (f_mov (.inr rfl) fun A W _ h => h.1)
                    case fin =>
                      intro L A' W hd hs hl hW he hr
                      obtain ⟨e0, e1, e2, e3, e4, e5, e6, e7, e8, e9, e10, _⟩ := he
                      have hA' := act_after [90, 91, 92, 93, 94, 95, 96, 97, 98, 99, 11] rfl hd hs hr
                      clear hd hs hr
                      replace e0 : A'.tmps[90]?.getD undef = _ := e0
                      replace e1 : A'.tmps[91]?.getD undef = _ := e1
                      replace e2 : A'.tmps[92]?.getD undef = _ := e2
                      replace e3 : A'.tmps[93]?.getD undef = _ := e3
                      replace e4 : A'.tmps[94]?.getD undef = _ := e4
                      replace e5 : A'.tmps[95]?.getD undef = _ := e5
                      replace e6 : A'.tmps[96]?.getD undef = _ := e6
                      replace e7 : A'.tmps[97]?.getD undef = _ := e7
                      replace e8 : A'.tmps[98]?.getD undef = _ := e8
                      replace e9 : A'.tmps[99]?.getD undef = _ := e9
                      replace e10 : A'.tmps[11]?.getD undef = _ := e10
                      simp only [frameAfter, List.contains_cons, List.contains_nil, Nat.reduceBEq, Bool.or_false, Bool.or_true, Bool.or_self, Bool.false_or, Bool.true_or, Bool.false_eq_true, if_true, if_false, Nat.reduceAdd, e0, e1, e2, e3, e4, e5, e6, e7, e8, e9, e10] at hA'
                      subst hA'
                      clear e0 e1 e2 e3 e4 e5 e6 e7 e8 e9 e10
                      have h1 := hl 1 (by decide)
                      obtain ⟨hbw, hcr⟩ := hW
                      rw [h1] at hcr
                      simp only [if_true] at hcr
                      go_wp2_with fail
                      go_roundw
                      case rel => exact ⟨j + 1, _, _, ok, by omega, by go_num, rfl, hbw, hcr, hst'⟩
                      case measure => simp [intOf]; omega
                    case start => exact ⟨below_drewN' hbr 1, hcr⟩
                  · have hne : (V == z) = false := by rw [beq_eq_false_iff_ne]; exact hvz
                    rw [hne, Bool.false_and] at hst'
                    go_upto_region 29 with fail
                    refine wp_region_L (SLL (cbS29f g b o n c j V z ok)) (fun L W => Below wb.heap.size wb W ∧ CR W g (if L 1 = true then (taken l e 8).2.1 else l) (if L 1 = true then (taken l e 8).2.2 else e))
                      [[(10, none)], [(90, some 0)], [(0, none)], [(12, none)], [(92, some 2), (93, some 3)], [(94, some 4)], [(91, some 1), (95, some 5)], [(96, some 6)], [(97, some 7), (11, none)], [(97, some 7), (98, some 8)], [(99, some 9)]]
                      (by kernel_rfl) (by kernel_rfl) (by kernel_rfl) ?start ?vc ?fin
                    case vc =>
                      refine ⟨?_, ?_, ?_, ?_, ?_, ?_, ?_, ?_, ?_, ?_, ?_, trivial⟩
                      · refine vl_of (cbS29f_mono g b o n c j V z ok) (fun L W W' hb h => ⟨below_then h.1 hb h.1.size, h.2.below hb⟩) fun L W0 hc hl hp hW => ?_
                        exact vf_none rfl (f_mov (.inl rfl) fun A W _ h => h.1)
                      · refine vl_call (fun L A W _ => want_none rfl A) rfl Try.func19 rfl (by kernel_rfl) fun L A' W hc hl hp hW h => ?_
                        obtain ⟨h90, _⟩ := h
                        replace h90 : A'.tmps[90]?.getD undef = _ := h90
                        show Calls _ _ #[A'.tmps[90]?.getD undef] _ _
                        rw [h90]
                        have hcr := hW.2
                        rw [hl] at hcr
                        simp only [Bool.false_eq_true, if_false] at hcr
                        refine Calls.mono (readInt_any g _ _ _ hcr) ?_
                        rintro r W' ⟨he, cr, gr⟩
                        rw [HV.out] at he
                        subst he
                        refine ⟨_, rfl, ⟨below_grown hW.1 gr hW.1.size hgw, ?_⟩, ⟨pres_is _, pres_is _, pres_is _, pres_is _, pres_is _, pres_is _, pres_is _, pres_is _, pres_is _, pres_is _, pres_is _, trivial⟩, rfl⟩
                        have h1' : upd L 1 1 = true := rfl
                        rw [h1']
                        simp only [if_true]
                        exact cr
                      · refine vl_of (cbS29f_mono g b o n c j V z ok) (fun L W W' hb h => ⟨below_then h.1 hb h.1.size, h.2.below hb⟩) fun L W0 hc hl hp hW => ?_
                        exact vf_none rfl (f_mov (.inl rfl) fun A W _ h => h.1)
                      · refine vl_of (cbS29f_mono g b o n c j V z ok) (fun L W W' hb h => ⟨below_then h.1 hb h.1.size, h.2.below hb⟩) fun L W0 hc hl hp hW => ?_
                        exact vf_none rfl (f_mov (.inl rfl) fun A W _ h => h.1)
                      · refine vl_of (cbS29f_mono g b o n c j V z ok) (fun L W W' hb h => ⟨below_then h.1 hb h.1.size, h.2.below hb⟩) fun L W0 hc hl hp hW => ?_
                        refine vf_none rfl (f_run fun A' W hR h => ?_)
                        obtain ⟨h92, h93, _⟩ := h
                        replace h92 : A'.tmps[92]?.getD undef = _ := h92
                        replace h93 : A'.tmps[93]?.getD undef = _ := h93
                        refine ⟨_, W, ?_, Below.refl _ _, rfl⟩
                        go_simp
                        all_goals omega
                      · refine vl_of (cbS29f_mono g b o n c j V z ok) (fun L W W' hb h => ⟨below_then h.1 hb h.1.size, h.2.below hb⟩) fun L W0 hc hl hp hW => ?_
                        refine vf_none rfl (f_run fun A' W hR h => ?_)
                        obtain ⟨h94, _⟩ := h
                        replace h94 : A'.tmps[94]?.getD undef = _ := h94
                        have hc := Keeps.of_below (below_then hW.1 hR hW.1.size) _ _ cz
                        refine ⟨_, W, ?_, Below.refl _ _, rfl⟩
                        go_simp
                      · refine vl_of (cbS29f_mono g b o n c j V z ok) (fun L W W' hb h => ⟨below_then h.1 hb h.1.size, h.2.below hb⟩) fun L W0 hc hl hp hW => ?_
                        refine vf_none rfl (f_run fun A' W hR h => ?_)
                        obtain ⟨h91, h95, _⟩ := h
                        replace h91 : A'.tmps[91]?.getD undef = _ := h91
                        replace h95 : A'.tmps[95]?.getD undef = _ := h95
                        refine ⟨_, W, ?_, Below.refl _ _, rfl⟩
                        go_simp
                      · refine vl_of (cbS29f_mono g b o n c j V z ok) (fun L W W' hb h => ⟨below_then h.1 hb h.1.size, h.2.below hb⟩) fun L W0 hc hl hp hW => ?_
                        exact vf_none rfl (f_mov (.inl rfl) fun A W _ h => h.1)
                      · refine vl_of (cbS29f_mono g b o n c j V z ok) (fun L W W' hb h => ⟨below_then h.1 hb h.1.size, h.2.below hb⟩) fun L W0 hc hl hp hW => ?_
                        exact vf_no rfl rfl (by decide) (fun A W _ h => h.1) (fun _ => rfl)
                      · refine vl_of (cbS29f_mono g b o n c j V z ok) (fun L W W' hb h => ⟨below_then h.1 hb h.1.size, h.2.below hb⟩) fun L W0 hc hl hp hW => ?_
                        refine vf_none rfl (f_run fun A' W hR h => ?_)
                        obtain ⟨h97, h98, _⟩ := h
                        replace h97 : A'.tmps[97]?.getD undef = _ := h97
                        replace h98 : A'.tmps[98]?.getD undef = _ := h98
                        refine ⟨_, W, ?_, Below.refl _ _, rfl⟩
                        go_simp
                      · refine vl_of (cbS29f_mono g b o n c j V z ok) (fun L W W' hb h => ⟨below_then h.1 hb h.1.size, h.2.below hb⟩) fun L W0 hc hl hp hW => ?_
                        exact vf_none rfl (f_mov (.inr rfl) fun A W _ h => h.1)
                    case fin =>
                      intro L A' W hd hs hl hW he hr
                      obtain ⟨e0, e1, e2, e3, e4, e5, e6, e7, e8, e9, e10, _⟩ := he
                      have hA' := act_after [90, 91, 92, 93, 94, 95, 96, 97, 98, 99, 11] rfl hd hs hr
                      clear hd hs hr
                      replace e0 : A'.tmps[90]?.getD undef = _ := e0
                      replace e1 : A'.tmps[91]?.getD undef = _ := e1
                      replace e2 : A'.tmps[92]?.getD undef = _ := e2
                      replace e3 : A'.tmps[93]?.getD undef = _ := e3
                      replace e4 : A'.tmps[94]?.getD undef = _ := e4
                      replace e5 : A'.tmps[95]?.getD undef = _ := e5
                      replace e6 : A'.tmps[96]?.getD undef = _ := e6
                      replace e7 : A'.tmps[97]?.getD undef = _ := e7
                      replace e8 : A'.tmps[98]?.getD undef = _ := e8
                      replace e9 : A'.tmps[99]?.getD undef = _ := e9
                      replace e10 : A'.tmps[11]?.getD undef = _ := e10
                      simp only [frameAfter, List.contains_cons, List.contains_nil, Nat.reduceBEq, Bool.or_false, Bool.or_true, Bool.or_self, Bool.false_or, Bool.true_or, Bool.false_eq_true, if_true, if_false, Nat.reduceAdd, e0, e1, e2, e3, e4, e5, e6, e7, e8, e9, e10] at hA'
                      subst hA'
                      clear e0 e1 e2 e3 e4 e5 e6 e7 e8 e9 e10
                      have h1 := hl 1 (by decide)
                      obtain ⟨hbw, hcr⟩ := hW
                      rw [h1] at hcr
                      simp only [if_true] at hcr
                      go_wp2_with fail
                      go_roundw
                      case rel => exact ⟨j + 1, _, _, false, by omega, by go_num, rfl, hbw, hcr, hst'⟩
                      case measure => simp [intOf]; omega
                    case start => exact ⟨below_drewN' hbr 1, hcr⟩
                · obtain rfl : n = j := by omega
                  have hst2 : Hid (zs.foldl intStep (byteStart (wrote n zs ss) n) = (l, e, ok)) := by
                    have := hst.out
                    rw [List.take_of_length_le (by rw [hzl.out]; exact Nat.le_refl _)] at this
                    exact this
                  clear hst
                  go_wp2_with fail
                  go_loopw [11, 13] (fun okv i wr => ∃ (i' : Nat) (l : List UInt8) (e : Int) (ok : Bool), i' ≤ m ∧ i = .int .i64 i' ∧ okv = .bool ok ∧ Below wb.heap.size wb wr ∧ CR wr g l e ∧ Hid ((ss.take i').foldl txtStep (zs.foldl intStep (byteStart (wrote n zs ss) n)) = (l, e, ok))) (fun _ i _ => m - (intOf i).toNat)
                  case atStart => exact ⟨0, l, e, ok, by omega, rfl, rfl, hbr, hcr, hst2⟩
                  case round =>
                    clear hst2 hcr hbr
                    obtain ⟨j, l, e, ok, hj, rfl, rfl, hbr, hcr, hst⟩ := hrel
                    by_cases hlt : j < m
                    · have hjn : (j : Int) < m := by omega
                      have hj0 : (0 : Int) ≤ j := by omega
                      obtain ⟨b, o, z, rfl, cz, hz⟩ := elem_atS hS hsl.out hlt
                      have hst' := Lib.hid (foldT hz.out hst.out)
                      clear hst
                      generalize hV : (textOf l e).1 = V at hst'
                      have HV := Lib.hid hV
                      clear hV
                      by_cases hvz : V = z
                      · have hne := hvz
                        rw [show ((V == z) && ok) = ok by rw [hvz, beq_self_eq_true, Bool.true_and]] at hst'
                        go_upto_region 33 with fail
                        subst hvz
                        refine wp_region_L (SLL (cbS33t g b o m d j V ok)) (fun L W => Below wb.heap.size wb W ∧ CR W g (if L 1 = true then (textOf l e).2.1 else l) (if L 1 = true then (textOf l e).2.2 else e))
                          [[(10, none)], [(106, some 0)], [(1, none)], [(13, none)], [(108, some 2), (109, some 3)], [(110, some 4)], [(107, some 1), (111, some 5)], [(112, some 6)], [(113, some 7), (11, none)], [(113, some 7), (114, some 8)], [(115, some 9)]]
                          (by kernel_rfl) (by kernel_rfl) (by kernel_rfl) ?start ?vc ?fin
                        case vc =>
                          refine ⟨?_, ?_, ?_, ?_, ?_, ?_, ?_, ?_, ?_, ?_, ?_, trivial⟩
                          · refine vl_of (cbS33t_mono g b o m d j V ok) (fun L W W' hb h => ⟨below_then h.1 hb h.1.size, h.2.below hb⟩) fun L W0 hc hl hp hW => ?_
                            exact vf_none rfl (f_mov (.inl rfl) fun A W _ h => h.1)
                          · refine vl_call (fun L A W _ => want_none rfl A) rfl Try.func22 rfl (by kernel_rfl) fun L A' W hc hl hp hW h => ?_
                            obtain ⟨h106, _⟩ := h
                            replace h106 : A'.tmps[106]?.getD undef = _ := h106
                            show Calls _ _ #[A'.tmps[106]?.getD undef] _ _
                            rw [h106]
                            have hcr := hW.2
                            rw [hl] at hcr
                            simp only [Bool.false_eq_true, if_false] at hcr
                            refine Calls.mono (readText_any g _ _ _ hcr) ?_
                            rintro r W' ⟨he, cr, gr⟩
                            rw [HV.out] at he
                            subst he
                            refine ⟨_, rfl, ⟨below_grown hW.1 gr hW.1.size hgw, ?_⟩, ⟨pres_is _, pres_is _, pres_is _, pres_is _, pres_is _, pres_is _, pres_is _, pres_is _, pres_is _, pres_is _, pres_is _, trivial⟩, rfl⟩
                            have h1' : upd L 1 1 = true := rfl
                            rw [h1']
                            simp only [if_true]
                            exact cr
                          · refine vl_of (cbS33t_mono g b o m d j V ok) (fun L W W' hb h => ⟨below_then h.1 hb h.1.size, h.2.below hb⟩) fun L W0 hc hl hp hW => ?_
                            exact vf_none rfl (f_mov (.inl rfl) fun A W _ h => h.1)
                          · refine vl_of (cbS33t_mono g b o m d j V ok) (fun L W W' hb h => ⟨below_then h.1 hb h.1.size, h.2.below hb⟩) fun L W0 hc hl hp hW => ?_
                            exact vf_none rfl (f_mov (.inl rfl) fun A W _ h => h.1)
                          · refine vl_of (cbS33t_mono g b o m d j V ok) (fun L W W' hb h => ⟨below_then h.1 hb h.1.size, h.2.below hb⟩) fun L W0 hc hl hp hW => ?_
                            refine vf_none rfl (f_run fun A' W hR h => ?_)
                            obtain ⟨h108, h109, _⟩ := h
                            replace h108 : A'.tmps[108]?.getD undef = _ := h108
                            replace h109 : A'.tmps[109]?.getD undef = _ := h109
                            refine ⟨_, W, ?_, Below.refl _ _, rfl⟩
                            go_simp
                            all_goals omega
                          · refine vl_of (cbS33t_mono g b o m d j V ok) (fun L W W' hb h => ⟨below_then h.1 hb h.1.size, h.2.below hb⟩) fun L W0 hc hl hp hW => ?_
                            refine vf_none rfl (f_run fun A' W hR h => ?_)
                            obtain ⟨h110, _⟩ := h
                            replace h110 : A'.tmps[110]?.getD undef = _ := h110
                            have hc := Keeps.of_below (below_then hW.1 hR hW.1.size) _ _ cz
                            refine ⟨_, W, ?_, Below.refl _ _, rfl⟩
                            go_simp
                          · refine vl_of (cbS33t_mono g b o m d j V ok) (fun L W W' hb h => ⟨below_then h.1 hb h.1.size, h.2.below hb⟩) fun L W0 hc hl hp hW => ?_
                            refine vf_none rfl (f_run fun A' W hR h => ?_)
                            obtain ⟨h107, h111, _⟩ := h
                            replace h107 : A'.tmps[107]?.getD undef = _ := h107
                            replace h111 : A'.tmps[111]?.getD undef = _ := h111
                            refine ⟨_, W, ?_, Below.refl _ _, rfl⟩
                            go_simp
                          · refine vl_of (cbS33t_mono g b o m d j V ok) (fun L W W' hb h => ⟨below_then h.1 hb h.1.size, h.2.below hb⟩) fun L W0 hc hl hp hW => ?_
                            exact vf_none rfl (f_mov (.inl rfl) fun A W _ h => h.1)
                          · refine vl_of (cbS33t_mono g b o m d j V ok) (fun L W W' hb h => ⟨below_then h.1 hb h.1.size, h.2.below hb⟩) fun L W0 hc hl hp hW => ?_
                            exact vf_yes rfl rfl (fun A W _ h => h.1) (f_mov (.inl rfl) fun A W _ h => h.2.1)
                          · refine vl_of (cbS33t_mono g b o m d j V ok) (fun L W W' hb h => ⟨below_then h.1 hb h.1.size, h.2.below hb⟩) fun L W0 hc hl hp hW => ?_
                            refine vf_none rfl (f_run fun A' W hR h => ?_)
                            obtain ⟨h113, h114, _⟩ := h
                            replace h113 : A'.tmps[113]?.getD undef = _ := h113
                            replace h114 : A'.tmps[114]?.getD undef = _ := h114
                            refine ⟨_, W, ?_, Below.refl _ _, rfl⟩
                            go_simp
                          · refine vl_of (cbS33t_mono g b o m d j V ok) (fun L W W' hb h => ⟨below_then h.1 hb h.1.size, h.2.below hb⟩) fun L W0 hc hl hp hW => ?_
                            exact vf_none rfl (f_mov (.inr rfl) fun A W _ h => h.1)
                        case fin =>
                          intro L A' W hd hs hl hW he hr
                          obtain ⟨e0, e1, e2, e3, e4, e5, e6, e7, e8, e9, e10, _⟩ := he
                          have hA' := act_after [106, 107, 108, 109, 110, 111, 112, 113, 114, 115, 11] rfl hd hs hr
                          clear hd hs hr
                          replace e0 : A'.tmps[106]?.getD undef = _ := e0
                          replace e1 : A'.tmps[107]?.getD undef = _ := e1
                          replace e2 : A'.tmps[108]?.getD undef = _ := e2
                          replace e3 : A'.tmps[109]?.getD undef = _ := e3
                          replace e4 : A'.tmps[110]?.getD undef = _ := e4
                          replace e5 : A'.tmps[111]?.getD undef = _ := e5
                          replace e6 : A'.tmps[112]?.getD undef = _ := e6
                          replace e7 : A'.tmps[113]?.getD undef = _ := e7
                          replace e8 : A'.tmps[114]?.getD undef = _ := e8
                          replace e9 : A'.tmps[115]?.getD undef = _ := e9
                          replace e10 : A'.tmps[11]?.getD undef = _ := e10
                          simp only [frameAfter, List.contains_cons, List.contains_nil, Nat.reduceBEq, Bool.or_false, Bool.or_true, Bool.or_self, Bool.false_or, Bool.true_or, Bool.false_eq_true, if_true, if_false, Nat.reduceAdd, e0, e1, e2, e3, e4, e5, e6, e7, e8, e9, e10] at hA'
                          subst hA'
                          clear e0 e1 e2 e3 e4 e5 e6 e7 e8 e9 e10
                          have h1 := hl 1 (by decide)
                          obtain ⟨hbw, hcr⟩ := hW
                          rw [h1] at hcr
                          simp only [if_true] at hcr
                          go_wp2_with fail
                          go_roundw
                          case rel => exact ⟨j + 1, _, _, ok, by omega, by go_num, rfl, hbw, hcr, hst'⟩
                          case measure => simp [intOf]; omega
                        case start => exact ⟨below_drewN' hbr 1, hcr⟩
                      · have hne : (V == z) = false := by rw [beq_eq_false_iff_ne]; exact hvz
                        rw [hne, Bool.false_and] at hst'
                        have hne2 := str_ne hvz
                        go_upto_region 33 with fail
                        refine wp_region_L (SLL (cbS33f g b o m d j V z ok)) (fun L W => Below wb.heap.size wb W ∧ CR W g (if L 1 = true then (textOf l e).2.1 else l) (if L 1 = true then (textOf l e).2.2 else e))
                          [[(10, none)], [(106, some 0)], [(1, none)], [(13, none)], [(108, some 2), (109, some 3)], [(110, some 4)], [(107, some 1), (111, some 5)], [(112, some 6)], [(113, some 7), (11, none)], [(113, some 7), (114, some 8)], [(115, some 9)]]
                          (by kernel_rfl) (by kernel_rfl) (by kernel_rfl) ?start ?vc ?fin
                        case vc =>
                          refine ⟨?_, ?_, ?_, ?_, ?_, ?_, ?_, ?_, ?_, ?_, ?_, trivial⟩
                          · refine vl_of (cbS33f_mono g b o m d j V z ok) (fun L W W' hb h => ⟨below_then h.1 hb h.1.size, h.2.below hb⟩) fun L W0 hc hl hp hW => ?_
                            exact vf_none rfl (f_mov (.inl rfl) fun A W _ h => h.1)
                          · refine vl_call (fun L A W _ => want_none rfl A) rfl Try.func22 rfl (by kernel_rfl) fun L A' W hc hl hp hW h => ?_
                            obtain ⟨h106, _⟩ := h
                            replace h106 : A'.tmps[106]?.getD undef = _ := h106
                            show Calls _ _ #[A'.tmps[106]?.getD undef] _ _
                            rw [h106]
                            have hcr := hW.2
                            rw [hl] at hcr
                            simp only [Bool.false_eq_true, if_false] at hcr
                            refine Calls.mono (readText_any g _ _ _ hcr) ?_
                            rintro r W' ⟨he, cr, gr⟩
                            rw [HV.out] at he
                            subst he
                            refine ⟨_, rfl, ⟨below_grown hW.1 gr hW.1.size hgw, ?_⟩, ⟨pres_is _, pres_is _, pres_is _, pres_is _, pres_is _, pres_is _, pres_is _, pres_is _, pres_is _, pres_is _, pres_is _, trivial⟩, rfl⟩
                            have h1' : upd L 1 1 = true := rfl
                            rw [h1']
                            simp only [if_true]
                            exact cr
                          · refine vl_of (cbS33f_mono g b o m d j V z ok) (fun L W W' hb h => ⟨below_then h.1 hb h.1.size, h.2.below hb⟩) fun L W0 hc hl hp hW => ?_
                            exact vf_none rfl (f_mov (.inl rfl) fun A W _ h => h.1)
                          · refine vl_of (cbS33f_mono g b o m d j V z ok) (fun L W W' hb h => ⟨below_then h.1 hb h.1.size, h.2.below hb⟩) fun L W0 hc hl hp hW => ?_
                            exact vf_none rfl (f_mov (.inl rfl) fun A W _ h => h.1)
                          · refine vl_of (cbS33f_mono g b o m d j V z ok) (fun L W W' hb h => ⟨below_then h.1 hb h.1.size, h.2.below hb⟩) fun L W0 hc hl hp hW => ?_
                            refine vf_none rfl (f_run fun A' W hR h => ?_)
                            obtain ⟨h108, h109, _⟩ := h
                            replace h108 : A'.tmps[108]?.getD undef = _ := h108
                            replace h109 : A'.tmps[109]?.getD undef = _ := h109
                            refine ⟨_, W, ?_, Below.refl _ _, rfl⟩
                            go_simp
                            all_goals omega
                          · refine vl_of (cbS33f_mono g b o m d j V z ok) (fun L W W' hb h => ⟨below_then h.1 hb h.1.size, h.2.below hb⟩) fun L W0 hc hl hp hW => ?_
                            refine vf_none rfl (f_run fun A' W hR h => ?_)
                            obtain ⟨h110, _⟩ := h
                            replace h110 : A'.tmps[110]?.getD undef = _ := h110
                            have hc := Keeps.of_below (below_then hW.1 hR hW.1.size) _ _ cz
                            refine ⟨_, W, ?_, Below.refl _ _, rfl⟩
                            go_simp
                          · refine vl_of (cbS33f_mono g b o m d j V z ok) (fun L W W' hb h => ⟨below_then h.1 hb h.1.size, h.2.below hb⟩) fun L W0 hc hl hp hW => ?_
                            refine vf_none rfl (f_run fun A' W hR h => ?_)
                            obtain ⟨h107, h111, _⟩ := h
                            replace h107 : A'.tmps[107]?.getD undef = _ := h107
                            replace h111 : A'.tmps[111]?.getD undef = _ := h111
                            refine ⟨_, W, ?_, Below.refl _ _, rfl⟩
                            go_simp
                          · refine vl_of (cbS33f_mono g b o m d j V z ok) (fun L W W' hb h => ⟨below_then h.1 hb h.1.size, h.2.below hb⟩) fun L W0 hc hl hp hW => ?_
                            exact vf_none rfl (f_mov (.inl rfl) fun A W _ h => h.1)
                          · refine vl_of (cbS33f_mono g b o m d j V z ok) (fun L W W' hb h => ⟨below_then h.1 hb h.1.size, h.2.below hb⟩) fun L W0 hc hl hp hW => ?_
                            exact vf_no rfl rfl (by decide) (fun A W _ h => h.1) (fun _ => rfl)
                          · refine vl_of (cbS33f_mono g b o m d j V z ok) (fun L W W' hb h => ⟨below_then h.1 hb h.1.size, h.2.below hb⟩) fun L W0 hc hl hp hW => ?_
                            refine vf_none rfl (f_run fun A' W hR h => ?_)
                            obtain ⟨h113, h114, _⟩ := h
                            replace h113 : A'.tmps[113]?.getD undef = _ := h113
                            replace h114 : A'.tmps[114]?.getD undef = _ := h114
                            refine ⟨_, W, ?_, Below.refl _ _, rfl⟩
                            go_simp
                          · refine vl_of (cbS33f_mono g b o m d j V z ok) (fun L W W' hb h => ⟨below_then h.1 hb h.1.size, h.2.below hb⟩) fun L W0 hc hl hp hW => ?_
                            exact vf_none rfl (f_mov (.inr rfl) fun A W _ h => h.1)
                        case fin =>
                          intro L A' W hd hs hl hW he hr
                          obtain ⟨e0, e1, e2, e3, e4, e5, e6, e7, e8, e9, e10, _⟩ := he
                          have hA' := act_after [106, 107, 108, 109, 110, 111, 112, 113, 114, 115, 11] rfl hd hs hr
                          clear hd hs hr
                          replace e0 : A'.tmps[106]?.getD undef = _ := e0
                          replace e1 : A'.tmps[107]?.getD undef = _ := e1
                          replace e2 : A'.tmps[108]?.getD undef = _ := e2
                          replace e3 : A'.tmps[109]?.getD undef = _ := e3
                          replace e4 : A'.tmps[110]?.getD undef = _ := e4
                          replace e5 : A'.tmps[111]?.getD undef = _ := e5
                          replace e6 : A'.tmps[112]?.getD undef = _ := e6
                          replace e7 : A'.tmps[113]?.getD undef = _ := e7
                          replace e8 : A'.tmps[114]?.getD undef = _ := e8
                          replace e9 : A'.tmps[115]?.getD undef = _ := e9
                          replace e10 : A'.tmps[11]?.getD undef = _ := e10
                          simp only [frameAfter, List.contains_cons, List.contains_nil, Nat.reduceBEq, Bool.or_false, Bool.or_true, Bool.or_self, Bool.false_or, Bool.true_or, Bool.false_eq_true, if_true, if_false, Nat.reduceAdd, e0, e1, e2, e3, e4, e5, e6, e7, e8, e9, e10] at hA'
                          subst hA'
                          clear e0 e1 e2 e3 e4 e5 e6 e7 e8 e9 e10
                          have h1 := hl 1 (by decide)
                          obtain ⟨hbw, hcr⟩ := hW
                          rw [h1] at hcr
                          simp only [if_true] at hcr
                          go_wp2_with fail
                          go_roundw
                          case rel => exact ⟨j + 1, _, _, false, by omega, by go_num, rfl, hbw, hcr, hst'⟩
                          case measure => simp [intOf]; omega
                        case start => exact ⟨below_drewN' hbr 1, hcr⟩
                    · obtain rfl : m = j := by omega
                      have hst2 : readAll (wrote n zs ss) n zs ss = (l, e, ok) := by
                        have := hst.out
                        rw [List.take_of_length_le (by rw [hsl.out]; exact Nat.le_refl _)] at this
                        exact this
                      clear hst
                      have hgo := id hcr
                      obtain ⟨_, _, _, hgo, _⟩ := hgo
                      have hcl := cell_of_block (i := 0) hgo rfl
                      clear hgo
                      have hall := readAll_ok n zs ss hn20 hzb hs200 []
                      rw [List.append_nil] at hall
                      rw [hall] at hst2
                      injection hst2 with q1 q2
                      injection q2 with q2 q3
                      subst q1; subst q2; subst q3
                      have hE : ended [] 0 = 0 := by simp [ended]
                      go_wp2_with (go_at_call 21; refine Calls.mono (end_any g _ 0 _ hcr) ?_; rw [hE]; rintro r _ ⟨rfl, rfl⟩)
                      go_roundw
                      case rel => exact ⟨1, by omega, by go_num, hbr⟩
                      case measure => simp [intOf]
            · go_upto_region 24 with (first
                | (at_builtin; refine cloneB wr rfl (.tmp 65) (.tmp 66) rfl _ rfl rfl _ _ _ (wrote n zs ss) rfl hX (by omega) ?_; intro v3 w3 hown3 hb3)
                | (at_builtin; refine appendB _ rfl (.tmp 67) (.tmp 68) rfl wr.heap.size v3 _ _ rfl (own_below hown3 (.alloc (.refl _ _) (Nat.le_refl _) _)) _ _ _ [7] rfl (Bs.lit _ rfl [7] rfl rfl) (by omega) (Nat.le_trans hb3.size (by simp)) ?_; intro v4 w4 hown4 hg4 hat4; obtain ⟨A4, c4, rfl, q1, q2, q3, _⟩ := own_slice hown4; have hb4 := below_append (hb3.alloc hb3.size _) hg4 (own_below hown3 (.alloc (.refl _ _) (Nat.le_refl _) _)) (Nat.le_trans hb3.size (by simp))))
              have hX : Bs w4 A4 (N + 1) (wrote n zs ss ++ [7]) := q3
              have hbX := below_two hbk hb4
              go_upto_region 25 with (go_at_call 18; refine Calls.mono (new_any _ _ _ _ _ hX (by omega)) ?_; rintro e w5 ⟨g, rfl, hg1, hg2, cr5, hb5⟩)
              have hgw : wb.heap.size ≤ g := Nat.le_trans hbX.size hg1
              have hb5w := below_two hbX hb5
              clear hb5 hX
              go_upto_region 26 with (go_at_call 20; refine Calls.mono (readByte_any g _ 0 _ cr5) ?_; rintro e w6 ⟨rfl, cr6, gr6⟩)
              have hb6w := below_grown hb5w gr6 hb5w.size hgw
              have hst0 : Hid (byteStart (wrote n zs ss ++ [7]) n = ((taken (wrote n zs ss ++ [7]) 0 1).2.1, (taken (wrote n zs ss ++ [7]) 0 1).2.2, ((leN (taken (wrote n zs ss ++ [7]) 0 1).1 : Int) == (n : Int)))) := rfl
              generalize (taken (wrote n zs ss ++ [7]) 0 1).2.1 = l0 at cr6 hst0
              generalize (taken (wrote n zs ss ++ [7]) 0 1).2.2 = e0 at cr6 hst0
              generalize ((leN (taken (wrote n zs ss ++ [7]) 0 1).1 : Int) == (n : Int)) = ok0 at hst0 ⊢
              clear gr6 hb5w cr5
              go_wp2_with fail
              go_loopw [11, 12] (fun okv i wr => ∃ (j : Nat) (l : List UInt8) (e : Int) (ok : Bool), j ≤ n ∧ i = .int .i64 j ∧ okv = .bool ok ∧ Below wb.heap.size wb wr ∧ CR wr g l e ∧ Hid ((zs.take j).foldl intStep (byteStart (wrote n zs ss ++ [7]) n) = (l, e, ok))) (fun _ i _ => n - (intOf i).toNat)
              case atStart => exact ⟨0, l0, e0, ok0, by omega, rfl, rfl, hb6w, cr6, hst0⟩
              case round =>
                obtain ⟨j, l, e, ok, hj, rfl, rfl, hbr, hcr, hst⟩ := hrel
                by_cases hlt : j < n
                · have hjn : (j : Int) < n := by omega
                  have hj0 : (0 : Int) ≤ j := by omega
                  obtain ⟨b, o, z, rfl, cz, hz⟩ := elem_at hA hzl.out hlt
                  have hst' := Lib.hid (foldI hz.out hst.out)
                  clear hst
                  generalize hV : wrap64 (leN (taken l e 8).1 : Int) = V at hst'
                  have HV := Lib.hid hV
                  clear hV
                  by_cases hvz : V = z
                  · have hne := hvz
                    rw [show ((V == z) && ok) = ok by rw [hvz, beq_self_eq_true, Bool.true_and]] at hst'
                    go_upto_region 29 with fail
                    subst hvz
                    refine wp_region_L (SLL (cbS29t g b o n c j V ok)) (fun L W => Below wb.heap.size wb W ∧ CR W g (if L 1 = true then (taken l e 8).2.1 else l) (if L 1 = true then (taken l e 8).2.2 else e))
                      [[(10, none)], [(90, some 0)], [(0, none)], [(12, none)], [(92, some 2), (93, some 3)], [(94, some 4)], [(91, some 1), (95, some 5)], [(96, some 6)], [(97, some 7), (11, none)], [(97, some 7), (98, some 8)], [(99, some 9)]]
                      (by kernel_rfl) (by kernel_rfl) (by kernel_rfl) ?start ?vc ?fin
                    case vc =>
                      refine ⟨?_, ?_, ?_, ?_, ?_, ?_, ?_, ?_, ?_, ?_, ?_, trivial⟩
                      · refine vl_of (cbS29t_mono g b o n c j V ok) (fun L W W' hb h => ⟨below_then h.1 hb h.1.size, h.2.below hb⟩) fun L W0 hc hl hp hW => ?_
                        exact vf_none rfl (f_mov (.inl rfl) fun A W _ h => h.1)
                      · refine vl_call (fun L A W _ => want_none rfl A) rfl Try.func19 rfl (by kernel_rfl) fun L A' W hc hl hp hW h => ?_
                        obtain ⟨h90, _⟩ := h
                        replace h90 : A'.tmps[90]?.getD undef = _ := h90
                        show Calls _ _ #[A'.tmps[90]?.getD undef] _ _
                        rw [h90]
                        have hcr := hW.2
                        rw [hl] at hcr
                        simp only [Bool.false_eq_true, if_false] at hcr
                        refine Calls.mono (readInt_any g _ _ _ hcr) ?_
                        rintro r W' ⟨he, cr, gr⟩
                        rw [HV.out] at he
                        subst he
                        refine ⟨_, rfl, ⟨below_grown hW.1 gr hW.1.size hgw, ?_⟩, ⟨pres_is _, pres_is _, pres_is _, pres_is _, pres_is _, pres_is _, pres_is _, pres_is _, pres_is _, pres_is _, pres_is _, trivial⟩, rfl⟩
                        have h1' : upd L 1 1 = true := rfl
                        rw [h1']
                        simp only [if_true]
                        exact cr
                      · refine vl_of (cbS29t_mono g b o n c j V ok) (fun L W W' hb h => ⟨below_then h.1 hb h.1.size, h.2.below hb⟩) fun L W0 hc hl hp hW => ?_
                        exact vf_none rfl (f_mov (.inl rfl) fun A W _ h => h.1)
                      · refine vl_of (cbS29t_mono g b o n c j V ok) (fun L W W' hb h => ⟨below_then h.1 hb h.1.size, h.2.below hb⟩) fun L W0 hc hl hp hW => ?_
                        exact vf_none rfl (f_mov (.inl rfl) fun A W _ h => h.1)
                      · refine vl_of (cbS29t_mono g b o n c j V ok) (fun L W W' hb h => ⟨below_then h.1 hb h.1.size, h.2.below hb⟩) fun L W0 hc hl hp hW => ?_
                        refine vf_none rfl (f_run fun A' W hR h => ?_)
                        obtain ⟨h92, h93, _⟩ := h
                        replace h92 : A'.tmps[92]?.getD undef = _ := h92
                        replace h93 : A'.tmps[93]?.getD undef = _ := h93
                        refine ⟨_, W, ?_, Below.refl _ _, rfl⟩
                        go_simp
                        all_goals omega
                      · refine vl_of (cbS29t_mono g b o n c j V ok) (fun L W W' hb h => ⟨below_then h.1 hb h.1.size, h.2.below hb⟩) fun L W0 hc hl hp hW => ?_
                        refine vf_none rfl (f_run fun A' W hR h => ?_)
                        obtain ⟨h94, _⟩ := h
                        replace h94 : A'.tmps[94]?.getD undef = _ := h94
                        have hc := Keeps.of_below (below_then hW.1 hR hW.1.size) _ _ cz
                        refine ⟨_, W, ?_, Below.refl _ _, rfl⟩
                        go_simp
                      · refine vl_of (cbS29t_mono g b o n c j V ok) (fun L W W' hb h => ⟨below_then h.1 hb h.1.size, h.2.below hb⟩) fun L W0 hc hl hp hW => ?_
                        refine vf_none rfl (f_run fun A' W hR h => ?_)
                        obtain ⟨h91, h95, _⟩ := h
                        replace h91 : A'.tmps[91]?.getD undef = _ := h91
                        replace h95 : A'.tmps[95]?.getD undef = _ := h95
                        refine ⟨_, W, ?_, Below.refl _ _, rfl⟩
                        go_simp
                      · refine vl_of (cbS29t_mono g b o n c j V ok) (fun L W W' hb h => ⟨below_then h.1 hb h.1.size, h.2.below hb⟩) fun L W0 hc hl hp hW => ?_
                        exact vf_none rfl (f_mov (.inl rfl) fun A W _ h => h.1)
                      · refine vl_of (cbS29t_mono g b o n c j V ok) (fun L W W' hb h => ⟨below_then h.1 hb h.1.size, h.2.below hb⟩) fun L W0 hc hl hp hW => ?_
                        exact vf_yes rfl rfl (fun A W _ h => h.1) (f_mov (.inl rfl) fun A W _ h => h.2.1)
                      · refine vl_of (cbS29t_mono g b o n c j V ok) (fun L W W' hb h => ⟨below_then h.1 hb h.1.size, h.2.below hb⟩) fun L W0 hc hl hp hW => ?_
                        refine vf_none rfl (f_run fun A' W hR h => ?_)
                        obtain ⟨h97, h98, _⟩ := h
                        replace h97 : A'.tmps[97]?.getD undef = _ := h97
                        replace h98 : A'.tmps[98]?.getD undef = _ := h98
                        refine ⟨_, W, ?_, Below.refl _ _, rfl⟩
                        go_simp
                      · refine vl_of (cbS29t_mono g b o n c j V ok) (fun L W W' hb h => ⟨below_then h.1 hb h.1.size, h.2.below hb⟩) fun L W0 hc hl hp hW => ?_
                        exact vf_none rfl (f_mov (.inr rfl) fun A W _ h => h.1)
                    case fin =>
                      intro L A' W hd hs hl hW he hr
                      obtain ⟨e0, e1, e2, e3, e4, e5, e6, e7, e8, e9, e10, _⟩ := he
                      have hA' := act_after [90, 91, 92, 93, 94, 95, 96, 97, 98, 99, 11] rfl hd hs hr
                      clear hd hs hr
                      replace e0 : A'.tmps[90]?.getD undef = _ := e0
                      replace e1 : A'.tmps[91]?.getD undef = _ := e1
                      replace e2 : A'.tmps[92]?.getD undef = _ := e2
                      replace e3 : A'.tmps[93]?.getD undef = _ := e3
                      replace e4 : A'.tmps[94]?.getD undef = _ := e4
                      replace e5 : A'.tmps[95]?.getD undef = _ := e5
                      replace e6 : A'.tmps[96]?.getD undef = _ := e6
                      replace e7 : A'.tmps[97]?.getD undef = _ := e7
                      replace e8 : A'.tmps[98]?.getD undef = _ := e8
                      replace e9 : A'.tmps[99]?.getD undef = _ := e9
                      replace e10 : A'.tmps[11]?.getD undef = _ := e10
                      simp only [frameAfter, List.contains_cons, List.contains_nil, Nat.reduceBEq, Bool.or_false, Bool.or_true, Bool.or_self, Bool.false_or, Bool.true_or, Bool.false_eq_true, if_true, if_false, Nat.reduceAdd, e0, e1, e2, e3, e4, e5, e6, e7, e8, e9, e10] at hA'
                      subst hA'
                      clear e0 e1 e2 e3 e4 e5 e6 e7 e8 e9 e10
                      have h1 := hl 1 (by decide)
                      obtain ⟨hbw, hcr⟩ := hW
                      rw [h1] at hcr
                      simp only [if_true] at hcr
                      go_wp2_with fail
                      go_roundw
                      case rel => exact ⟨j + 1, _, _, ok, by omega, by go_num, rfl, hbw, hcr, hst'⟩
                      case measure => simp [intOf]; omega
                    case start => exact ⟨below_drewN' hbr 1, hcr⟩
                  · have hne : (V == z) = false := by rw [beq_eq_false_iff_ne]; exact hvz
                    rw [hne, Bool.false_and] at hst'
                    go_upto_region 29 with fail
                    refine wp_region_L (SLL (cbS29f g b o n c j V z ok)) (fun L W => Below wb.heap.size wb W ∧ CR W g (if L 1 = true then (taken l e 8).2.1 else l) (if L 1 = true then (taken l e 8).2.2 else e))
                      [[(10, none)], [(90, some 0)], [(0, none)], [(12, none)], [(92, some 2), (93, some 3)], [(94, some 4)], [(91, some 1), (95, some 5)], [(96, some 6)], [(97, some 7), (11, none)], [(97, some 7), (98, some 8)], [(99, some 9)]]
                      (by kernel_rfl) (by kernel_rfl) (by kernel_rfl) ?start ?vc ?fin
                    case vc =>
                      refine ⟨?_, ?_, ?_, ?_, ?_, ?_, ?_, ?_, ?_, ?_, ?_, trivial⟩
                      · refine vl_of (cbS29f_mono g b o n c j V z ok) (fun L W W' hb h => ⟨below_then h.1 hb h.1.size, h.2.below hb⟩) fun L W0 hc hl hp hW => ?_
                        exact vf_none rfl (f_mov (.inl rfl) fun A W _ h => h.1)
                      · refine vl_call (fun L A W _ => want_none rfl A) rfl Try.func19 rfl (by kernel_rfl) fun L A' W hc hl hp hW h => ?_
                        obtain ⟨h90, _⟩ := h
                        replace h90 : A'.tmps[90]?.getD undef = _ := h90
                        show Calls _ _ #[A'.tmps[90]?.getD undef] _ _
                        rw [h90]
                        have hcr := hW.2
                        rw [hl] at hcr
                        simp only [Bool.false_eq_true, if_false] at hcr
                        refine Calls.mono (readInt_any g _ _ _ hcr) ?_
                        rintro r W' ⟨he, cr, gr⟩
                        rw [HV.out] at he
                        subst he
                        refine ⟨_, rfl, ⟨below_grown hW.1 gr hW.1.size hgw, ?_⟩, ⟨pres_is _, pres_is _, pres_is _, pres_is _, pres_is _, pres_is _, pres_is _, pres_is _, pres_is _, pres_is _, pres_is _, trivial⟩, rfl⟩
                        have h1' : upd L 1 1 = true := rfl
                        rw [h1']
                        simp only [if_true]
                        exact cr
                      · refine vl_of (cbS29f_mono g b o n c j V z ok) (fun L W W' hb h => ⟨below_then h.1 hb h.1.size, h.2.below hb⟩) fun L W0 hc hl hp hW => ?_
                        exact vf_none rfl (f_mov (.inl rfl) fun A W _ h => h.1)
                      · refine vl_of (cbS29f_mono g b o n c j V z ok) (fun L W W' hb h => ⟨below_then h.1 hb h.1.size, h.2.below hb⟩) fun L W0 hc hl hp hW => ?_
                        exact vf_none rfl (f_mov (.inl rfl) fun A W _ h => h.1)
                      · refine vl_of (cbS29f_mono g b o n c j V z ok) (fun L W W' hb h => ⟨below_then h.1 hb h.1.size, h.2.below hb⟩) fun L W0 hc hl hp hW => ?_
                        refine vf_none rfl (f_run fun A' W hR h => ?_)
                        obtain ⟨h92, h93, _⟩ := h
                        replace h92 : A'.tmps[92]?.getD undef = _ := h92
                        replace h93 : A'.tmps[93]?.getD undef = _ := h93
                        refine ⟨_, W, ?_, Below.refl _ _, rfl⟩
                        go_simp
                        all_goals omega
                      · refine vl_of (cbS29f_mono g b o n c j V z ok) (fun L W W' hb h => ⟨below_then h.1 hb h.1.size, h.2.below hb⟩) fun L W0 hc hl hp hW => ?_
                        refine vf_none rfl (f_run fun A' W hR h => ?_)
                        obtain ⟨h94, _⟩ := h
                        replace h94 : A'.tmps[94]?.getD undef = _ := h94
                        have hc := Keeps.of_below (below_then hW.1 hR hW.1.size) _ _ cz
                        refine ⟨_, W, ?_, Below.refl _ _, rfl⟩
                        go_simp
                      · refine vl_of (cbS29f_mono g b o n c j V z ok) (fun L W W' hb h => ⟨below_then h.1 hb h.1.size, h.2.below hb⟩) fun L W0 hc hl hp hW => ?_
                        refine vf_none rfl (f_run fun A' W hR h => ?_)
                        obtain ⟨h91, h95, _⟩ := h
                        replace h91 : A'.tmps[91]?.getD undef = _ := h91
                        replace h95 : A'.tmps[95]?.getD undef = _ := h95
                        refine ⟨_, W, ?_, Below.refl _ _, rfl⟩
                        go_simp
                      · refine vl_of (cbS29f_mono g b o n c j V z ok) (fun L W W' hb h => ⟨below_then h.1 hb h.1.size, h.2.below hb⟩) fun L W0 hc hl hp hW => ?_
                        exact vf_none rfl (f_mov (.inl rfl) fun A W _ h => h.1)
                      · refine vl_of (cbS29f_mono g b o n c j V z ok) (fun L W W' hb h => ⟨below_then h.1 hb h.1.size, h.2.below hb⟩) fun L W0 hc hl hp hW => ?_
                        exact vf_no rfl rfl (by decide) (fun A W _ h => h.1) (fun _ => rfl)
                      · refine vl_of (cbS29f_mono g b o n c j V z ok) (fun L W W' hb h => ⟨below_then h.1 hb h.1.size, h.2.below hb⟩) fun L W0 hc hl hp hW => ?_
                        refine vf_none rfl (f_run fun A' W hR h => ?_)
                        obtain ⟨h97, h98, _⟩ := h
                        replace h97 : A'.tmps[97]?.getD undef = _ := h97
                        replace h98 : A'.tmps[98]?.getD undef = _ := h98
                        refine ⟨_, W, ?_, Below.refl _ _, rfl⟩
                        go_simp
                      · refine vl_of (cbS29f_mono g b o n c j V z ok) (fun L W W' hb h => ⟨below_then h.1 hb h.1.size, h.2.below hb⟩) fun L W0 hc hl hp hW => ?_
                        exact vf_none rfl (f_mov (.inr rfl) fun A W _ h => h.1)
                    case fin =>
                      intro L A' W hd hs hl hW he hr
                      obtain ⟨e0, e1, e2, e3, e4, e5, e6, e7, e8, e9, e10, _⟩ := he
                      have hA' := act_after [90, 91, 92, 93, 94, 95, 96, 97, 98, 99, 11] rfl hd hs hr
                      clear hd hs hr
                      replace e0 : A'.tmps[90]?.getD undef = _ := e0
                      replace e1 : A'.tmps[91]?.getD undef = _ := e1
                      replace e2 : A'.tmps[92]?.getD undef = _ := e2
                      replace e3 : A'.tmps[93]?.getD undef = _ := e3
                      replace e4 : A'.tmps[94]?.getD undef = _ := e4
                      replace e5 : A'.tmps[95]?.getD undef = _ := e5
                      replace e6 : A'.tmps[96]?.getD undef = _ := e6
                      replace e7 : A'.tmps[97]?.getD undef = _ := e7
                      replace e8 : A'.tmps[98]?.getD undef = _ := e8
                      replace e9 : A'.tmps[99]?.getD undef = _ := e9
                      replace e10 : A'.tmps[11]?.getD undef = _ := e10
                      simp only [frameAfter, List.contains_cons, List.contains_nil, Nat.reduceBEq, Bool.or_false, Bool.or_true, Bool.or_self, Bool.false_or, Bool.true_or, Bool.false_eq_true, if_true, if_false, Nat.reduceAdd, e0, e1, e2, e3, e4, e5, e6, e7, e8, e9, e10] at hA'
                      subst hA'
                      clear e0 e1 e2 e3 e4 e5 e6 e7 e8 e9 e10
                      have h1 := hl 1 (by decide)
                      obtain ⟨hbw, hcr⟩ := hW
                      rw [h1] at hcr
                      simp only [if_true] at hcr
                      go_wp2_with fail
                      go_roundw
                      case rel => exact ⟨j + 1, _, _, false, by omega, by go_num, rfl, hbw, hcr, hst'⟩
                      case measure => simp [intOf]; omega
                    case start => exact ⟨below_drewN' hbr 1, hcr⟩
                · obtain rfl : n = j := by omega
                  have hst2 : Hid (zs.foldl intStep (byteStart (wrote n zs ss ++ [7]) n) = (l, e, ok)) := by
                    have := hst.out
                    rw [List.take_of_length_le (by rw [hzl.out]; exact Nat.le_refl _)] at this
                    exact this
                  clear hst
                  go_wp2_with fail
                  go_loopw [11, 13] (fun okv i wr => ∃ (i' : Nat) (l : List UInt8) (e : Int) (ok : Bool), i' ≤ m ∧ i = .int .i64 i' ∧ okv = .bool ok ∧ Below wb.heap.size wb wr ∧ CR wr g l e ∧ Hid ((ss.take i').foldl txtStep (zs.foldl intStep (byteStart (wrote n zs ss ++ [7]) n)) = (l, e, ok))) (fun _ i _ => m - (intOf i).toNat)
                  case atStart => exact ⟨0, l, e, ok, by omega, rfl, rfl, hbr, hcr, hst2⟩
                  case round =>
                    clear hst2 hcr hbr
                    obtain ⟨j, l, e, ok, hj, rfl, rfl, hbr, hcr, hst⟩ := hrel
                    by_cases hlt : j < m
                    · have hjn : (j : Int) < m := by omega
                      have hj0 : (0 : Int) ≤ j := by omega
                      obtain ⟨b, o, z, rfl, cz, hz⟩ := elem_atS hS hsl.out hlt
                      have hst' := Lib.hid (foldT hz.out hst.out)
                      clear hst
                      generalize hV : (textOf l e).1 = V at hst'
                      have HV := Lib.hid hV
                      clear hV
                      by_cases hvz : V = z
                      · have hne := hvz
                        rw [show ((V == z) && ok) = ok by rw [hvz, beq_self_eq_true, Bool.true_and]] at hst'
                        go_upto_region 33 with fail
                        subst hvz
                        refine wp_region_L (SLL (cbS33t g b o m d j V ok)) (fun L W => Below wb.heap.size wb W ∧ CR W g (if L 1 = true then (textOf l e).2.1 else l) (if L 1 = true then (textOf l e).2.2 else e))
                          [[(10, none)], [(106, some 0)], [(1, none)], [(13, none)], [(108, some 2), (109, some 3)], [(110, some 4)], [(107, some 1), (111, some 5)], [(112, some 6)], [(113, some 7), (11, none)], [(113, some 7), (114, some 8)], [(115, some 9)]]
                          (by kernel_rfl) (by kernel_rfl) (by kernel_rfl) ?start ?vc ?fin
                        case vc =>
                          refine ⟨?_, ?_, ?_, ?_, ?_, ?_, ?_, ?_, ?_, ?_, ?_, trivial⟩
                          · refine vl_of (cbS33t_mono g b o m d j V ok) (fun L W W' hb h => ⟨below_then h.1 hb h.1.size, h.2.below hb⟩) fun L W0 hc hl hp hW => ?_
                            exact vf_none rfl (f_mov (.inl rfl) fun A W _ h => h.1)
                          · refine vl_call (fun L A W _ => want_none rfl A) rfl Try.func22 rfl (by kernel_rfl) fun L A' W hc hl hp hW h => ?_
                            obtain ⟨h106, _⟩ := h
                            replace h106 : A'.tmps[106]?.getD undef = _ := h106
                            show Calls _ _ #[A'.tmps[106]?.getD undef] _ _
                            rw [h106]
                            have hcr := hW.2
                            rw [hl] at hcr
                            simp only [Bool.false_eq_true, if_false] at hcr
                            refine Calls.mono (readText_any g _ _ _ hcr) ?_
                            rintro r W' ⟨he, cr, gr⟩
                            rw [HV.out] at he
                            subst he
                            refine ⟨_, rfl, ⟨below_grown hW.1 gr hW.1.size hgw, ?_⟩, ⟨pres_is _, pres_is _, pres_is _, pres_is _, pres_is _, pres_is _, pres_is _, pres_is _, pres_is _, pres_is _, pres_is _, trivial⟩, rfl⟩
                            have h1' : upd L 1 1 = true := rfl
                            rw [h1']
                            simp only [if_true]
                            exact cr
                          · refine vl_of (cbS33t_mono g b o m d j V ok) (fun L W W' hb h => ⟨below_then h.1 hb h.1.size, h.2.below hb⟩) fun L W0 hc hl hp hW => ?_
                            exact vf_none rfl (f_mov (.inl rfl) fun A W _ h => h.1)
                          · refine vl_of (cbS33t_mono g b o m d j V ok) (fun L W W' hb h => ⟨below_then h.1 hb h.1.size, h.2.below hb⟩) fun L W0 hc hl hp hW => ?_
                            exact vf_none rfl (f_mov (.inl rfl) fun A W _ h => h.1)
                          · refine vl_of (cbS33t_mono g b o m d j V ok) (fun L W W' hb h => ⟨below_then h.1 hb h.1.size, h.2.below hb⟩) fun L W0 hc hl hp hW => ?_
                            refine vf_none rfl (f_run fun A' W hR h => ?_)
                            obtain ⟨h108, h109, _⟩ := h
                            replace h108 : A'.tmps[108]?.getD undef = _ := h108
                            replace h109 : A'.tmps[109]?.getD undef = _ := h109
                            refine ⟨_, W, ?_, Below.refl _ _, rfl⟩
                            go_simp
                            all_goals omega
                          · refine vl_of (cbS33t_mono g b o m d j V ok) (fun L W W' hb h => ⟨below_then h.1 hb h.1.size, h.2.below hb⟩) fun L W0 hc hl hp hW => ?_
                            refine vf_none rfl (f_run fun A' W hR h => ?_)
                            obtain ⟨h110, _⟩ := h
                            replace h110 : A'.tmps[110]?.getD undef = _ := h110
                            have hc := Keeps.of_below (below_then hW.1 hR hW.1.size) _ _ cz
                            refine ⟨_, W, ?_, Below.refl _ _, rfl⟩
                            go_simp
                          · refine vl_of (cbS33t_mono g b o m d j V ok) (fun L W W' hb h => ⟨below_then h.1 hb h.1.size, h.2.below hb⟩) fun L W0 hc hl hp hW => ?_
                            refine vf_none rfl (f_run fun A' W hR h => ?_)
                            obtain ⟨h107, h111, _⟩ := h
                            replace h107 : A'.tmps[107]?.getD undef = _ := h107
                            replace h111 : A'.tmps[111]?.getD undef = _ := h111
                            refine ⟨_, W, ?_, Below.refl _ _, rfl⟩
                            go_simp
                          · refine vl_of (cbS33t_mono g b o m d j V ok) (fun L W W' hb h => ⟨below_then h.1 hb h.1.size, h.2.below hb⟩) fun L W0 hc hl hp hW => ?_
                            exact vf_none rfl (f_mov (.inl rfl) fun A W _ h => h.1)
                          · refine vl_of (cbS33t_mono g b o m d j V ok) (fun L W W' hb h => ⟨below_then h.1 hb h.1.size, h.2.below hb⟩) fun L W0 hc hl hp hW => ?_
                            exact vf_yes rfl rfl (fun A W _ h => h.1) (f_mov (.inl rfl) fun A W _ h => h.2.1)
                          · refine vl_of (cbS33t_mono g b o m d j V ok) (fun L W W' hb h => ⟨below_then h.1 hb h.1.size, h.2.below hb⟩) fun L W0 hc hl hp hW => ?_
                            refine vf_none rfl (f_run fun A' W hR h => ?_)
                            obtain ⟨h113, h114, _⟩ := h
                            replace h113 : A'.tmps[113]?.getD undef = _ := h113
                            replace h114 : A'.tmps[114]?.getD undef = _ := h114
                            refine ⟨_, W, ?_, Below.refl _ _, rfl⟩
                            go_simp
                          · refine vl_of (cbS33t_mono g b o m d j V ok) (fun L W W' hb h => ⟨below_then h.1 hb h.1.size, h.2.below hb⟩) fun L W0 hc hl hp hW => ?_
                            exact vf_none rfl (f_mov (.inr rfl) fun A W _ h => h.1)
                        case fin =>
                          intro L A' W hd hs hl hW he hr
                          obtain ⟨e0, e1, e2, e3, e4, e5, e6, e7, e8, e9, e10, _⟩ := he
                          have hA' := act_after [106, 107, 108, 109, 110, 111, 112, 113, 114, 115, 11] rfl hd hs hr
                          clear hd hs hr
                          replace e0 : A'.tmps[106]?.getD undef = _ := e0
                          replace e1 : A'.tmps[107]?.getD undef = _ := e1
                          replace e2 : A'.tmps[108]?.getD undef = _ := e2
                          replace e3 : A'.tmps[109]?.getD undef = _ := e3
                          replace e4 : A'.tmps[110]?.getD undef = _ := e4
                          replace e5 : A'.tmps[111]?.getD undef = _ := e5
                          replace e6 : A'.tmps[112]?.getD undef = _ := e6
                          replace e7 : A'.tmps[113]?.getD undef = _ := e7
                          replace e8 : A'.tmps[114]?.getD undef = _ := e8
                          replace e9 : A'.tmps[115]?.getD undef = _ := e9
                          replace e10 : A'.tmps[11]?.getD undef = _ := e10
                          simp only [frameAfter, List.contains_cons, List.contains_nil, Nat.reduceBEq, Bool.or_false, Bool.or_true, Bool.or_self, Bool.false_or, Bool.true_or, Bool.false_eq_true, if_true, if_false, Nat.reduceAdd, e0, e1, e2, e3, e4, e5, e6, e7, e8, e9, e10] at hA'
                          subst hA'
                          clear e0 e1 e2 e3 e4 e5 e6 e7 e8 e9 e10
                          have h1 := hl 1 (by decide)
                          obtain ⟨hbw, hcr⟩ := hW
                          rw [h1] at hcr
                          simp only [if_true] at hcr
                          go_wp2_with fail
                          go_roundw
                          case rel => exact ⟨j + 1, _, _, ok, by omega, by go_num, rfl, hbw, hcr, hst'⟩
                          case measure => simp [intOf]; omega
                        case start => exact ⟨below_drewN' hbr 1, hcr⟩
                      · have hne : (V == z) = false := by rw [beq_eq_false_iff_ne]; exact hvz
                        rw [hne, Bool.false_and] at hst'
                        have hne2 := str_ne hvz
                        go_upto_region 33 with fail
                        refine wp_region_L (SLL (cbS33f g b o m d j V z ok)) (fun L W => Below wb.heap.size wb W ∧ CR W g (if L 1 = true then (textOf l e).2.1 else l) (if L 1 = true then (textOf l e).2.2 else e))
                          [[(10, none)], [(106, some 0)], [(1, none)], [(13, none)], [(108, some 2), (109, some 3)], [(110, some 4)], [(107, some 1), (111, some 5)], [(112, some 6)], [(113, some 7), (11, none)], [(113, some 7), (114, some 8)], [(115, some 9)]]
                          (by kernel_rfl) (by kernel_rfl) (by kernel_rfl) ?start ?vc ?fin
                        case vc =>
                          refine ⟨?_, ?_, ?_, ?_, ?_, ?_, ?_, ?_, ?_, ?_, ?_, trivial⟩
                          · refine vl_of (cbS33f_mono g b o m d j V z ok) (fun L W W' hb h => ⟨below_then h.1 hb h.1.size, h.2.below hb⟩) fun L W0 hc hl hp hW => ?_
                            exact vf_none rfl (f_mov (.inl rfl) fun A W _ h => h.1)
                          · refine vl_call (fun L A W _ => want_none rfl A) rfl Try.func22 rfl (by kernel_rfl) fun L A' W hc hl hp hW h => ?_
                            obtain ⟨h106, _⟩ := h
                            replace h106 : A'.tmps[106]?.getD undef = _ := h106
                            show Calls _ _ #[A'.tmps[106]?.getD undef] _ _
                            rw [h106]
                            have hcr := hW.2
                            rw [hl] at hcr
                            simp only [Bool.false_eq_true, if_false] at hcr
                            refine Calls.mono (readText_any g _ _ _ hcr) ?_
                            rintro r W' ⟨he, cr, gr⟩
                            rw [HV.out] at he
                            subst he
                            refine ⟨_, rfl, ⟨below_grown hW.1 gr hW.1.size hgw, ?_⟩, ⟨pres_is _, pres_is _, pres_is _, pres_is _, pres_is _, pres_is _, pres_is _, pres_is _, pres_is _, pres_is _, pres_is _, trivial⟩, rfl⟩
                            have h1' : upd L 1 1 = true := rfl
                            rw [h1']
                            simp only [if_true]
                            exact cr
                          · refine vl_of (cbS33f_mono g b o m d j V z ok) (fun L W W' hb h => ⟨below_then h.1 hb h.1.size, h.2.below hb⟩) fun L W0 hc hl hp hW => ?_
                            exact vf_none rfl (f_mov (.inl rfl) fun A W _ h => h.1)
                          · refine vl_of (cbS33f_mono g b o m d j V z ok) (fun L W W' hb h => ⟨below_then h.1 hb h.1.size, h.2.below hb⟩) fun L W0 hc hl hp hW => ?_
                            exact vf_none rfl (f_mov (.inl rfl) fun A W _ h => h.1)
                          · refine vl_of (cbS33f_mono g b o m d j V z ok) (fun L W W' hb h => ⟨below_then h.1 hb h.1.size, h.2.below hb⟩) fun L W0 hc hl hp hW => ?_
                            refine vf_none rfl (f_run fun A' W hR h => ?_)
                            obtain ⟨h108, h109, _⟩ := h
                            replace h108 : A'.tmps[108]?.getD undef = _ := h108
                            replace h109 : A'.tmps[109]?.getD undef = _ := h109
                            refine ⟨_, W, ?_, Below.refl _ _, rfl⟩
                            go_simp
                            all_goals omega
                          · refine vl_of (cbS33f_mono g b o m d j V z ok) (fun L W W' hb h => ⟨below_then h.1 hb h.1.size, h.2.below hb⟩) fun L W0 hc hl hp hW => ?_
                            refine vf_none rfl (f_run fun A' W hR h => ?_)
                            obtain ⟨h110, _⟩ := h
                            replace h110 : A'.tmps[110]?.getD undef = _ := h110
                            have hc := Keeps.of_below (below_then hW.1 hR hW.1.size) _ _ cz
                            refine ⟨_, W, ?_, Below.refl _ _, rfl⟩
                            go_simp
                          · refine vl_of (cbS33f_mono g b o m d j V z ok) (fun L W W' hb h => ⟨below_then h.1 hb h.1.size, h.2.below hb⟩) fun L W0 hc hl hp hW => ?_
                            refine vf_none rfl (f_run fun A' W hR h => ?_)
                            obtain ⟨h107, h111, _⟩ := h
                            replace h107 : A'.tmps[107]?.getD undef = _ := h107
                            replace h111 : A'.tmps[111]?.getD undef = _ := h111
                            refine ⟨_, W, ?_, Below.refl _ _, rfl⟩
                            go_simp
                          · refine vl_of (cbS33f_mono g b o m d j V z ok) (fun L W W' hb h => ⟨below_then h.1 hb h.1.size, h.2.below hb⟩) fun L W0 hc hl hp hW => ?_
                            exact vf_none rfl (f_mov (.inl rfl) fun A W _ h => h.1)
                          · refine vl_of (cbS33f_mono g b o m d j V z ok) (fun L W W' hb h => ⟨below_then h.1 hb h.1.size, h.2.below hb⟩) fun L W0 hc hl hp hW => ?_
                            exact vf_no rfl rfl (by decide) (fun A W _ h => h.1) (fun _ => rfl)
                          · refine vl_of (cbS33f_mono g b o m d j V z ok) (fun L W W' hb h => ⟨below_then h.1 hb h.1.size, h.2.below hb⟩) fun L W0 hc hl hp hW => ?_
                            refine vf_none rfl (f_run fun A' W hR h => ?_)
                            obtain ⟨h113, h114, _⟩ := h
                            replace h113 : A'.tmps[113]?.getD undef = _ := h113
                            replace h114 : A'.tmps[114]?.getD undef = _ := h114
                            refine ⟨_, W, ?_, Below.refl _ _, rfl⟩
                            go_simp
                          · refine vl_of (cbS33f_mono g b o m d j V z ok) (fun L W W' hb h => ⟨below_then h.1 hb h.1.size, h.2.below hb⟩) fun L W0 hc hl hp hW => ?_
                            exact vf_none rfl (f_mov (.inr rfl) fun A W _ h => h.1)
                        case fin =>
                          intro L A' W hd hs hl hW he hr
                          obtain ⟨e0, e1, e2, e3, e4, e5, e6, e7, e8, e9, e10, _⟩ := he
                          have hA' := act_after [106, 107, 108, 109, 110, 111, 112, 113, 114, 115, 11] rfl hd hs hr
                          clear hd hs hr
                          replace e0 : A'.tmps[106]?.getD undef = _ := e0
                          replace e1 : A'.tmps[107]?.getD undef = _ := e1
                          replace e2 : A'.tmps[108]?.getD undef = _ := e2
                          replace e3 : A'.tmps[109]?.getD undef = _ := e3
                          replace e4 : A'.tmps[110]?.getD undef = _ := e4
                          replace e5 : A'.tmps[111]?.getD undef = _ := e5
                          replace e6 : A'.tmps[112]?.getD undef = _ := e6
                          replace e7 : A'.tmps[113]?.getD undef = _ := e7
                          replace e8 : A'.tmps[114]?.getD undef = _ := e8
                          replace e9 : A'.tmps[115]?.getD undef = _ := e9
                          replace e10 : A'.tmps[11]?.getD undef = _ := e10
                          simp only [frameAfter, List.contains_cons, List.contains_nil, Nat.reduceBEq, Bool.or_false, Bool.or_true, Bool.or_self, Bool.false_or, Bool.true_or, Bool.false_eq_true, if_true, if_false, Nat.reduceAdd, e0, e1, e2, e3, e4, e5, e6, e7, e8, e9, e10] at hA'
                          subst hA'
                          clear e0 e1 e2 e3 e4 e5 e6 e7 e8 e9 e10
                          have h1 := hl 1 (by decide)
                          obtain ⟨hbw, hcr⟩ := hW
                          rw [h1] at hcr
                          simp only [if_true] at hcr
                          go_wp2_with fail
                          go_roundw
                          case rel => exact ⟨j + 1, _, _, false, by omega, by go_num, rfl, hbw, hcr, hst'⟩
                          case measure => simp [intOf]; omega
                        case start => exact ⟨below_drewN' hbr 1, hcr⟩
                    · obtain rfl : m = j := by omega
                      have hst2 : readAll (wrote n zs ss ++ [7]) n zs ss = (l, e, ok) := by
                        have := hst.out
                        rw [List.take_of_length_le (by rw [hsl.out]; exact Nat.le_refl _)] at this
                        exact this
                      clear hst
                      have hgo := id hcr
                      obtain ⟨_, _, _, hgo, _⟩ := hgo
                      have hcl := cell_of_block (i := 0) hgo rfl
                      clear hgo
                      have hall := readAll_ok n zs ss hn20 hzb hs200 [7]
                      rw [hall] at hst2
                      injection hst2 with q1 q2
                      injection q2 with q2 q3
                      subst q1; subst q2; subst q3
                      have hE : ended [7] 0 = 9 := by simp [ended]
                      go_wp2_with (go_at_call 21; refine Calls.mono (end_any g _ 0 _ hcr) ?_; rw [hE]; rintro r _ ⟨rfl, rfl⟩)
                      go_roundw
                      case rel => exact ⟨2, by omega, by go_num, hbr⟩
                      case measure => simp [intOf]
            · have hNl := Lib.hid hX.len
              have hX := hX.to_ (k := N - 1) (by omega)
              have hdl : (wrote n zs ss).take (N - 1) = (wrote n zs ss).dropLast := by rw [List.dropLast_eq_take, hNl.out]
              rw [hdl] at hX
              have hi1 : (N : Int) - 1 = ((N - 1 : Nat) : Int) := by omega
              have hi2 : ((N - 1 : Nat) : Int) ≤ cb := by omega
              have hi3 : (0 : Int) ≤ (N : Int) - 1 := by omega
              have hi4 : (N : Int) - 1 ≤ cb := by omega
              clear hdl
              go_upto_region 24 with fail
              go_upto_region 25 with (go_at_call 18; refine Calls.mono (new_any _ _ _ _ _ hX (by omega)) ?_; rintro e w5 ⟨g, rfl, hg1, hg2, cr5, hb5⟩)
              have hgw : wb.heap.size ≤ g := Nat.le_trans hbX.size hg1
              have hb5w := below_two hbX hb5
              clear hb5 hX
              go_upto_region 26 with (go_at_call 20; refine Calls.mono (readByte_any g _ 0 _ cr5) ?_; rintro e w6 ⟨rfl, cr6, gr6⟩)
              have hb6w := below_grown hb5w gr6 hb5w.size hgw
              have hst0 : Hid (byteStart ((wrote n zs ss).dropLast) n = ((taken ((wrote n zs ss).dropLast) 0 1).2.1, (taken ((wrote n zs ss).dropLast) 0 1).2.2, ((leN (taken ((wrote n zs ss).dropLast) 0 1).1 : Int) == (n : Int)))) := rfl
              generalize (taken ((wrote n zs ss).dropLast) 0 1).2.1 = l0 at cr6 hst0
              generalize (taken ((wrote n zs ss).dropLast) 0 1).2.2 = e0 at cr6 hst0
              generalize ((leN (taken ((wrote n zs ss).dropLast) 0 1).1 : Int) == (n : Int)) = ok0 at hst0 ⊢
              clear gr6 hb5w cr5
              go_wp2_with fail
              go_loopw [11, 12] (fun okv i wr => ∃ (j : Nat) (l : List UInt8) (e : Int) (ok : Bool), j ≤ n ∧ i = .int .i64 j ∧ okv = .bool ok ∧ Below wb.heap.size wb wr ∧ CR wr g l e ∧ Hid ((zs.take j).foldl intStep (byteStart ((wrote n zs ss).dropLast) n) = (l, e, ok))) (fun _ i _ => n - (intOf i).toNat)
              case atStart => exact ⟨0, l0, e0, ok0, by omega, rfl, rfl, hb6w, cr6, hst0⟩
              case round =>
                obtain ⟨j, l, e, ok, hj, rfl, rfl, hbr, hcr, hst⟩ := hrel
                by_cases hlt : j < n
                · have hjn : (j : Int) < n := by omega
                  have hj0 : (0 : Int) ≤ j := by omega
                  obtain ⟨b, o, z, rfl, cz, hz⟩ := elem_at hA hzl.out hlt
                  have hst' := Lib.hid (foldI hz.out hst.out)
                  clear hst
                  generalize hV : wrap64 (leN (taken l e 8).1 : Int) = V at hst'
                  have HV := Lib.hid hV
                  clear hV
                  by_cases hvz : V = z
                  · have hne := hvz
                    rw [show ((V == z) && ok) = ok by rw [hvz, beq_self_eq_true, Bool.true_and]] at hst'
                    go_upto_region 29 with fail
                    subst hvz
                    refine wp_region_L (SLL (cbS29t g b o n c j V ok)) (fun L W => Below wb.heap.size wb W ∧ CR W g (if L 1 = true then (taken l e 8).2.1 else l) (if L 1 = true then (taken l e 8).2.2 else e))
                      [[(10, none)], [(90, some 0)], [(0, none)], [(12, none)], [(92, some 2), (93, some 3)], [(94, some 4)], [(91, some 1), (95, some 5)], [(96, some 6)], [(97, some 7), (11, none)], [(97, some 7), (98, some 8)], [(99, some 9)]]
                      (by kernel_rfl) (by kernel_rfl) (by kernel_rfl) ?start ?vc ?fin
                    case vc =>
                      refine ⟨?_, ?_, ?_, ?_, ?_, ?_, ?_, ?_, ?_, ?_, ?_, trivial⟩
                      · refine vl_of (cbS29t_mono g b o n c j V ok) (fun L W W' hb h => ⟨below_then h.1 hb h.1.size, h.2.below hb⟩) fun L W0 hc hl hp hW => ?_
                        exact vf_none rfl (f_mov (.inl rfl) fun A W _ h => h.1)
                      · refine vl_call (fun L A W _ => want_none rfl A) rfl Try.func19 rfl (by kernel_rfl) fun L A' W hc hl hp hW h => ?_
                        obtain ⟨h90, _⟩ := h
                        replace h90 : A'.tmps[90]?.getD undef = _ := h90
                        show Calls _ _ #[A'.tmps[90]?.getD undef] _ _
                        rw [h90]
                        have hcr := hW.2
                        rw [hl] at hcr
                        simp only [Bool.false_eq_true, if_false] at hcr
                        refine Calls.mono (readInt_any g _ _ _ hcr) ?_
                        rintro r W' ⟨he, cr, gr⟩
                        rw [HV.out] at he
                        subst he
                        refine ⟨_, rfl, ⟨below_grown hW.1 gr hW.1.size hgw, ?_⟩, ⟨pres_is _, pres_is _, pres_is _, pres_is _, pres_is _, pres_is _, pres_is _, pres_is _, pres_is _, pres_is _, pres_is _, trivial⟩, rfl⟩
                        have h1' : upd L 1 1 = true := rfl
                        rw [h1']
                        simp only [if_true]
                        exact cr
                      · refine vl_of (cbS29t_mono g b o n c j V ok) (fun L W W' hb h => ⟨below_then h.1 hb h.1.size, h.2.below hb⟩) fun L W0 hc hl hp hW => ?_
                        exact vf_none rfl (f_mov (.inl rfl) fun A W _ h => h.1)
                      · refine vl_of (cbS29t_mono g b o n c j V ok) (fun L W W' hb h => ⟨below_then h.1 hb h.1.size, h.2.below hb⟩) fun L W0 hc hl hp hW => ?_
                        exact vf_none rfl (f_mov (.inl rfl) fun A W _ h => h.1)
                      · refine vl_of (cbS29t_mono g b o n c j V ok) (fun L W W' hb h => ⟨below_then h.1 hb h.1.size, h.2.below hb⟩) fun L W0 hc hl hp hW => ?_
                        refine vf_none rfl (f_run fun A' W hR h => ?_)
                        obtain ⟨h92, h93, _⟩ := h
                        replace h92 : A'.tmps[92]?.getD undef = _ := h92
                        replace h93 : A'.tmps[93]?.getD undef = _ := h93
                        refine ⟨_, W, ?_, Below.refl _ _, rfl⟩
                        go_simp
                        all_goals omega
                      · refine vl_of (cbS29t_mono g b o n c j V ok) (fun L W W' hb h => ⟨below_then h.1 hb h.1.size, h.2.below hb⟩) fun L W0 hc hl hp hW => ?_
                        refine vf_none rfl (f_run fun A' W hR h => ?_)
                        obtain ⟨h94, _⟩ := h
                        replace h94 : A'.tmps[94]?.getD undef = _ := h94
                        have hc := Keeps.of_below (below_then hW.1 hR hW.1.size) _ _ cz
                        refine ⟨_, W, ?_, Below.refl _ _, rfl⟩
                        go_simp
                      · refine vl_of (cbS29t_mono g b o n c j V ok) (fun L W W' hb h => ⟨below_then h.1 hb h.1.size, h.2.below hb⟩) fun L W0 hc hl hp hW => ?_
                        refine vf_none rfl (f_run fun A' W hR h => ?_)
                        obtain ⟨h91, h95, _⟩ := h
                        replace h91 : A'.tmps[91]?.getD undef = _ := h91
                        replace h95 : A'.tmps[95]?.getD undef = _ := h95
                        refine ⟨_, W, ?_, Below.refl _ _, rfl⟩
                        go_simp
                      · refine vl_of (cbS29t_mono g b o n c j V ok) (fun L W W' hb h => ⟨below_then h.1 hb h.1.size, h.2.below hb⟩) fun L W0 hc hl hp hW => ?_
                        exact vf_none rfl (f_mov (.inl rfl) fun A W _ h => h.1)
                      · refine vl_of (cbS29t_mono g b o n c j V ok) (fun L W W' hb h => ⟨below_then h.1 hb h.1.size, h.2.below hb⟩) fun L W0 hc hl hp hW => ?_
                        exact vf_yes rfl rfl (fun A W _ h => h.1) (f_mov (.inl rfl) fun A W _ h => h.2.1)
                      · refine vl_of (cbS29t_mono g b o n c j V ok) (fun L W W' hb h => ⟨below_then h.1 hb h.1.size, h.2.below hb⟩) fun L W0 hc hl hp hW => ?_
                        refine vf_none rfl (f_run fun A' W hR h => ?_)
                        obtain ⟨h97, h98, _⟩ := h
                        replace h97 : A'.tmps[97]?.getD undef = _ := h97
                        replace h98 : A'.tmps[98]?.getD undef = _ := h98
                        refine ⟨_, W, ?_, Below.refl _ _, rfl⟩
                        go_simp
                      · refine vl_of (cbS29t_mono g b o n c j V ok) (fun L W W' hb h => ⟨below_then h.1 hb h.1.size, h.2.below hb⟩) fun L W0 hc hl hp hW => ?_
                        exact vf_none rfl (f_mov (.inr rfl) fun A W _ h => h.1)
                    case fin =>
                      intro L A' W hd hs hl hW he hr
                      obtain ⟨e0, e1, e2, e3, e4, e5, e6, e7, e8, e9, e10, _⟩ := he
                      have hA' := act_after [90, 91, 92, 93, 94, 95, 96, 97, 98, 99, 11] rfl hd hs hr
                      clear hd hs hr
                      replace e0 : A'.tmps[90]?.getD undef = _ := e0
                      replace e1 : A'.tmps[91]?.getD undef = _ := e1
                      replace e2 : A'.tmps[92]?.getD undef = _ := e2
                      replace e3 : A'.tmps[93]?.getD undef = _ := e3
                      replace e4 : A'.tmps[94]?.getD undef = _ := e4
                      replace e5 : A'.tmps[95]?.getD undef = _ := e5
                      replace e6 : A'.tmps[96]?.getD undef = _ := e6
                      replace e7 : A'.tmps[97]?.getD undef = _ := e7
                      replace e8 : A'.tmps[98]?.getD undef = _ := e8
                      replace e9 : A'.tmps[99]?.getD undef = _ := e9
                      replace e10 : A'.tmps[11]?.getD undef = _ := e10
                      simp only [frameAfter, List.contains_cons, List.contains_nil, Nat.reduceBEq, Bool.or_false, Bool.or_true, Bool.or_self, Bool.false_or, Bool.true_or, Bool.false_eq_true, if_true, if_false, Nat.reduceAdd, e0, e1, e2, e3, e4, e5, e6, e7, e8, e9, e10] at hA'
                      subst hA'
                      clear e0 e1 e2 e3 e4 e5 e6 e7 e8 e9 e10
                      have h1 := hl 1 (by decide)
                      obtain ⟨hbw, hcr⟩ := hW
                      rw [h1] at hcr
                      simp only [if_true] at hcr
                      go_wp2_with fail
                      go_roundw
                      case rel => exact ⟨j + 1, _, _, ok, by omega, by go_num, rfl, hbw, hcr, hst'⟩
                      case measure => simp [intOf]; omega
                    case start => exact ⟨below_drewN' hbr 1, hcr⟩
                  · have hne : (V == z) = false := by rw [beq_eq_false_iff_ne]; exact hvz
                    rw [hne, Bool.false_and] at hst'
                    go_upto_region 29 with fail
                    refine wp_region_L (SLL (cbS29f g b o n c j V z ok)) (fun L W => Below wb.heap.size wb W ∧ CR W g (if L 1 = true then (taken l e 8).2.1 else l) (if L 1 = true then (taken l e 8).2.2 else e))
                      [[(10, none)], [(90, some 0)], [(0, none)], [(12, none)], [(92, some 2), (93, some 3)], [(94, some 4)], [(91, some 1), (95, some 5)], [(96, some 6)], [(97, some 7), (11, none)], [(97, some 7), (98, some 8)], [(99, some 9)]]
                      (by kernel_rfl) (by kernel_rfl) (by kernel_rfl) ?start ?vc ?fin
                    case vc =>
                      refine ⟨?_, ?_, ?_, ?_, ?_, ?_, ?_, ?_, ?_, ?_, ?_, trivial⟩
                      · refine vl_of (cbS29f_mono g b o n c j V z ok) (fun L W W' hb h => ⟨below_then h.1 hb h.1.size, h.2.below hb⟩) fun L W0 hc hl hp hW => ?_
                        exact vf_none rfl (f_mov (.inl rfl) fun A W _ h => h.1)
                      · refine vl_call (fun L A W _ => want_none rfl A) rfl Try.func19 rfl (by kernel_rfl) fun L A' W hc hl hp hW h => ?_
                        obtain ⟨h90, _⟩ := h
                        replace h90 : A'.tmps[90]?.getD undef = _ := h90
                        show Calls _ _ #[A'.tmps[90]?.getD undef] _ _
                        rw [h90]
                        have hcr := hW.2
                        rw [hl] at hcr
                        simp only [Bool.false_eq_true, if_false] at hcr
                        refine Calls.mono (readInt_any g _ _ _ hcr) ?_
                        rintro r W' ⟨he, cr, gr⟩
                        rw [HV.out] at he
                        subst he
                        refine ⟨_, rfl, ⟨below_grown hW.1 gr hW.1.size hgw, ?_⟩, ⟨pres_is _, pres_is _, pres_is _, pres_is _, pres_is _, pres_is _, pres_is _, pres_is _, pres_is _, pres_is _, pres_is _, trivial⟩, rfl⟩
                        have h1' : upd L 1 1 = true := rfl
                        rw [h1']
                        simp only [if_true]
                        exact cr
                      · refine vl_of (cbS29f_mono g b o n c j V z ok) (fun L W W' hb h => ⟨below_then h.1 hb h.1.size, h.2.below hb⟩) fun L W0 hc hl hp hW => ?_
                        exact vf_none rfl (f_mov (.inl rfl) fun A W _ h => h.1)
                      · refine vl_of (cbS29f_mono g b o n c j V z ok) (fun L W W' hb h => ⟨below_then h.1 hb h.1.size, h.2.below hb⟩) fun L W0 hc hl hp hW => ?_
                        exact vf_none rfl (f_mov (.inl rfl) fun A W _ h => h.1)
                      · refine vl_of (cbS29f_mono g b o n c j V z ok) (fun L W W' hb h => ⟨below_then h.1 hb h.1.size, h.2.below hb⟩) fun L W0 hc hl hp hW => ?_
                        refine vf_none rfl (f_run fun A' W hR h => ?_)
                        obtain ⟨h92, h93, _⟩ := h
                        replace h92 : A'.tmps[92]?.getD undef = _ := h92
                        replace h93 : A'.tmps[93]?.getD undef = _ := h93
                        refine ⟨_, W, ?_, Below.refl _ _, rfl⟩
                        go_simp
                        all_goals omega
                      · refine vl_of (cbS29f_mono g b o n c j V z ok) (fun L W W' hb h => ⟨below_then h.1 hb h.1.size, h.2.below hb⟩) fun L W0 hc hl hp hW => ?_
                        refine vf_none rfl (f_run fun A' W hR h => ?_)
                        obtain ⟨h94, _⟩ := h
                        replace h94 : A'.tmps[94]?.getD undef = _ := h94
                        have hc := Keeps.of_below (below_then hW.1 hR hW.1.size) _ _ cz
                        refine ⟨_, W, ?_, Below.refl _ _, rfl⟩
                        go_simp
                      · refine vl_of (cbS29f_mono g b o n c j V z ok) (fun L W W' hb h => ⟨below_then h.1 hb h.1.size, h.2.below hb⟩) fun L W0 hc hl hp hW => ?_
                        refine vf_none rfl (f_run fun A' W hR h => ?_)
                        obtain ⟨h91, h95, _⟩ := h
                        replace h91 : A'.tmps[91]?.getD undef = _ := h91
                        replace h95 : A'.tmps[95]?.getD undef = _ := h95
                        refine ⟨_, W, ?_, Below.refl _ _, rfl⟩
                        go_simp
                      · refine vl_of (cbS29f_mono g b o n c j V z ok) (fun L W W' hb h => ⟨below_then h.1 hb h.1.size, h.2.below hb⟩) fun L W0 hc hl hp hW => ?_
                        exact vf_none rfl (f_mov (.inl rfl) fun A W _ h => h.1)
                      · refine vl_of (cbS29f_mono g b o n c j V z ok) (fun L W W' hb h => ⟨below_then h.1 hb h.1.size, h.2.below hb⟩) fun L W0 hc hl hp hW => ?_
                        exact vf_no rfl rfl (by decide) (fun A W _ h => h.1) (fun _ => rfl)
                      · refine vl_of (cbS29f_mono g b o n c j V z ok) (fun L W W' hb h => ⟨below_then h.1 hb h.1.size, h.2.below hb⟩) fun L W0 hc hl hp hW => ?_
                        refine vf_none rfl (f_run fun A' W hR h => ?_)
                        obtain ⟨h97, h98, _⟩ := h
                        replace h97 : A'.tmps[97]?.getD undef = _ := h97
                        replace h98 : A'.tmps[98]?.getD undef = _ := h98
                        refine ⟨_, W, ?_, Below.refl _ _, rfl⟩
                        go_simp
                      · refine vl_of (cbS29f_mono g b o n c j V z ok) (fun L W W' hb h => ⟨below_then h.1 hb h.1.size, h.2.below hb⟩) fun L W0 hc hl hp hW => ?_
                        exact vf_none rfl (f_mov (.inr rfl) fun A W _ h => h.1)
                    case fin =>
                      intro L A' W hd hs hl hW he hr
                      obtain ⟨e0, e1, e2, e3, e4, e5, e6, e7, e8, e9, e10, _⟩ := he
                      have hA' := act_after [90, 91, 92, 93, 94, 95, 96, 97, 98, 99, 11] rfl hd hs hr
                      clear hd hs hr
                      replace e0 : A'.tmps[90]?.getD undef = _ := e0
                      replace e1 : A'.tmps[91]?.getD undef = _ := e1
                      replace e2 : A'.tmps[92]?.getD undef = _ := e2
                      replace e3 : A'.tmps[93]?.getD undef = _ := e3
                      replace e4 : A'.tmps[94]?.getD undef = _ := e4
                      replace e5 : A'.tmps[95]?.getD undef = _ := e5
                      replace e6 : A'.tmps[96]?.getD undef = _ := e6
                      replace e7 : A'.tmps[97]?.getD undef = _ := e7
                      replace e8 : A'.tmps[98]?.getD undef = _ := e8
                      replace e9 : A'.tmps[99]?.getD undef = _ := e9
                      replace e10 : A'.tmps[11]?.getD undef = _ := e10
                      simp only [frameAfter, List.contains_cons, List.contains_nil, Nat.reduceBEq, Bool.or_false, Bool.or_true, Bool.or_self, Bool.false_or, Bool.true_or, Bool.false_eq_true, if_true, if_false, Nat.reduceAdd, e0, e1, e2, e3, e4, e5, e6, e7, e8, e9, e10] at hA'
                      subst hA'
                      clear e0 e1 e2 e3 e4 e5 e6 e7 e8 e9 e10
                      have h1 := hl 1 (by decide)
                      obtain ⟨hbw, hcr⟩ := hW
                      rw [h1] at hcr
                      simp only [if_true] at hcr
                      go_wp2_with fail
                      go_roundw
                      case rel => exact ⟨j + 1, _, _, false, by omega, by go_num, rfl, hbw, hcr, hst'⟩
                      case measure => simp [intOf]; omega
                    case start => exact ⟨below_drewN' hbr 1, hcr⟩
                · obtain rfl : n = j := by omega
                  have hst2 : Hid (zs.foldl intStep (byteStart ((wrote n zs ss).dropLast) n) = (l, e, ok)) := by
                    have := hst.out
                    rw [List.take_of_length_le (by rw [hzl.out]; exact Nat.le_refl _)] at this
                    exact this
                  clear hst
                  go_wp2_with fail
                  go_loopw [11, 13] (fun okv i wr => ∃ (i' : Nat) (l : List UInt8) (e : Int) (ok : Bool), i' ≤ m ∧ i = .int .i64 i' ∧ okv = .bool ok ∧ Below wb.heap.size wb wr ∧ CR wr g l e ∧ Hid ((ss.take i').foldl txtStep (zs.foldl intStep (byteStart ((wrote n zs ss).dropLast) n)) = (l, e, ok))) (fun _ i _ => m - (intOf i).toNat)
                  case atStart => exact ⟨0, l, e, ok, by omega, rfl, rfl, hbr, hcr, hst2⟩
                  case round =>
                    clear hst2 hcr hbr
                    obtain ⟨j, l, e, ok, hj, rfl, rfl, hbr, hcr, hst⟩ := hrel
                    by_cases hlt : j < m
                    · have hjn : (j : Int) < m := by omega
                      have hj0 : (0 : Int) ≤ j := by omega
                      obtain ⟨b, o, z, rfl, cz, hz⟩ := elem_atS hS hsl.out hlt
                      have hst' := Lib.hid (foldT hz.out hst.out)
                      clear hst
                      generalize hV : (textOf l e).1 = V at hst'
                      have HV := Lib.hid hV
                      clear hV
                      by_cases hvz : V = z
                      · have hne := hvz
                        rw [show ((V == z) && ok) = ok by rw [hvz, beq_self_eq_true, Bool.true_and]] at hst'
                        go_upto_region 33 with fail
                        subst hvz
                        refine wp_region_L (SLL (cbS33t g b o m d j V ok)) (fun L W => Below wb.heap.size wb W ∧ CR W g (if L 1 = true then (textOf l e).2.1 else l) (if L 1 = true then (textOf l e).2.2 else e))
                          [[(10, none)], [(106, some 0)], [(1, none)], [(13, none)], [(108, some 2), (109, some 3)], [(110, some 4)], [(107, some 1), (111, some 5)], [(112, some 6)], [(113, some 7), (11, none)], [(113, some 7), (114, some 8)], [(115, some 9)]]
                          (by kernel_rfl) (by kernel_rfl) (by kernel_rfl) ?start ?vc ?fin
                        case vc =>
                          refine ⟨?_, ?_, ?_, ?_, ?_, ?_, ?_, ?_, ?_, ?_, ?_, trivial⟩
                          · refine vl_of (cbS33t_mono g b o m d j V ok) (fun L W W' hb h => ⟨below_then h.1 hb h.1.size, h.2.below hb⟩) fun L W0 hc hl hp hW => ?_
                            exact vf_none rfl (f_mov (.inl rfl) fun A W _ h => h.1)
                          · refine vl_call (fun L A W _ => want_none rfl A) rfl Try.func22 rfl (by kernel_rfl) fun L A' W hc hl hp hW h => ?_
                            obtain ⟨h106, _⟩ := h
                            replace h106 : A'.tmps[106]?.getD undef = _ := h106
                            show Calls _ _ #[A'.tmps[106]?.getD undef] _ _
                            rw [h106]
                            have hcr := hW.2
                            rw [hl] at hcr
                            simp only [Bool.false_eq_true, if_false] at hcr
                            refine Calls.mono (readText_any g _ _ _ hcr) ?_
                            rintro r W' ⟨he, cr, gr⟩
                            rw [HV.out] at he
                            subst he
                            refine ⟨_, rfl, ⟨below_grown hW.1 gr hW.1.size hgw, ?_⟩, ⟨pres_is _, pres_is _, pres_is _, pres_is _, pres_is _, pres_is _, pres_is _, pres_is _, pres_is _, pres_is _, pres_is _, trivial⟩, rfl⟩
                            have h1' : upd L 1 1 = true := rfl
                            rw [h1']
                            simp only [if_true]
                            exact cr
                          · refine vl_of (cbS33t_mono g b o m d j V ok) (fun L W W' hb h => ⟨below_then h.1 hb h.1.size, h.2.below hb⟩) fun L W0 hc hl hp hW => ?_
                            exact vf_none rfl (f_mov (.inl rfl) fun A W _ h => h.1)
                          · refine vl_of (cbS33t_mono g b o m d j V ok) (fun L W W' hb h => ⟨below_then h.1 hb h.1.size, h.2.below hb⟩) fun L W0 hc hl hp hW => ?_
                            exact vf_none rfl (f_mov (.inl rfl) fun A W _ h => h.1)
                          · refine vl_of (cbS33t_mono g b o m d j V ok) (fun L W W' hb h => ⟨below_then h.1 hb h.1.size, h.2.below hb⟩) fun L W0 hc hl hp hW => ?_
                            refine vf_none rfl (f_run fun A' W hR h => ?_)
                            obtain ⟨h108, h109, _⟩ := h
                            replace h108 : A'.tmps[108]?.getD undef = _ := h108
                            replace h109 : A'.tmps[109]?.getD undef = _ := h109
                            refine ⟨_, W, ?_, Below.refl _ _, rfl⟩
                            go_simp
                            all_goals omega
                          · refine vl_of (cbS33t_mono g b o m d j V ok) (fun L W W' hb h => ⟨below_then h.1 hb h.1.size, h.2.below hb⟩) fun L W0 hc hl hp hW => ?_
                            refine vf_none rfl (f_run fun A' W hR h => ?_)
                            obtain ⟨h110, _⟩ := h
                            replace h110 : A'.tmps[110]?.getD undef = _ := h110
                            have hc := Keeps.of_below (below_then hW.1 hR hW.1.size) _ _ cz
                            refine ⟨_, W, ?_, Below.refl _ _, rfl⟩
                            go_simp
                          · refine vl_of (cbS33t_mono g b o m d j V ok) (fun L W W' hb h => ⟨below_then h.1 hb h.1.size, h.2.below hb⟩) fun L W0 hc hl hp hW => ?_
                            refine vf_none rfl (f_run fun A' W hR h => ?_)
                            obtain ⟨h107, h111, _⟩ := h
                            replace h107 : A'.tmps[107]?.getD undef = _ := h107
                            replace h111 : A'.tmps[111]?.getD undef = _ := h111
                            refine ⟨_, W, ?_, Below.refl _ _, rfl⟩
                            go_simp
                          · refine vl_of (cbS33t_mono g b o m d j V ok) (fun L W W' hb h => ⟨below_then h.1 hb h.1.size, h.2.below hb⟩) fun L W0 hc hl hp hW => ?_
                            exact vf_none rfl (f_mov (.inl rfl) fun A W _ h => h.1)
                          · refine vl_of (cbS33t_mono g b o m d j V ok) (fun L W W' hb h => ⟨below_then h.1 hb h.1.size, h.2.below hb⟩) fun L W0 hc hl hp hW => ?_
                            exact vf_yes rfl rfl (fun A W _ h => h.1) (f_mov (.inl rfl) fun A W _ h => h.2.1)
                          · refine vl_of (cbS33t_mono g b o m d j V ok) (fun L W W' hb h => ⟨below_then h.1 hb h.1.size, h.2.below hb⟩) fun L W0 hc hl hp hW => ?_
                            refine vf_none rfl (f_run fun A' W hR h => ?_)
                            obtain ⟨h113, h114, _⟩ := h
                            replace h113 : A'.tmps[113]?.getD undef = _ := h113
                            replace h114 : A'.tmps[114]?.getD undef = _ := h114
                            refine ⟨_, W, ?_, Below.refl _ _, rfl⟩
                            go_simp
                          · refine vl_of (cbS33t_mono g b o m d j V ok) (fun L W W' hb h => ⟨below_then h.1 hb h.1.size, h.2.below hb⟩) fun L W0 hc hl hp hW => ?_
                            exact vf_none rfl (f_mov (.inr rfl) fun A W _ h => h.1)
                        case fin =>
                          intro L A' W hd hs hl hW he hr
                          obtain ⟨e0, e1, e2, e3, e4, e5, e6, e7, e8, e9, e10, _⟩ := he
                          have hA' := act_after [106, 107, 108, 109, 110, 111, 112, 113, 114, 115, 11] rfl hd hs hr
                          clear hd hs hr
                          replace e0 : A'.tmps[106]?.getD undef = _ := e0
                          replace e1 : A'.tmps[107]?.getD undef = _ := e1
                          replace e2 : A'.tmps[108]?.getD undef = _ := e2
                          replace e3 : A'.tmps[109]?.getD undef = _ := e3
                          replace e4 : A'.tmps[110]?.getD undef = _ := e4
                          replace e5 : A'.tmps[111]?.getD undef = _ := e5
                          replace e6 : A'.tmps[112]?.getD undef = _ := e6
                          replace e7 : A'.tmps[113]?.getD undef = _ := e7
                          replace e8 : A'.tmps[114]?.getD undef = _ := e8
                          replace e9 : A'.tmps[115]?.getD undef = _ := e9
                          replace e10 : A'.tmps[11]?.getD undef = _ := e10
                          simp only [frameAfter, List.contains_cons, List.contains_nil, Nat.reduceBEq, Bool.or_false, Bool.or_true, Bool.or_self, Bool.false_or, Bool.true_or, Bool.false_eq_true, if_true, if_false, Nat.reduceAdd, e0, e1, e2, e3, e4, e5, e6, e7, e8, e9, e10] at hA'
                          subst hA'
                          clear e0 e1 e2 e3 e4 e5 e6 e7 e8 e9 e10
                          have h1 := hl 1 (by decide)
                          obtain ⟨hbw, hcr⟩ := hW
                          rw [h1] at hcr
                          simp only [if_true] at hcr
                          go_wp2_with fail
                          go_roundw
                          case rel => exact ⟨j + 1, _, _, ok, by omega, by go_num, rfl, hbw, hcr, hst'⟩
                          case measure => simp [intOf]; omega
                        case start => exact ⟨below_drewN' hbr 1, hcr⟩
                      · have hne : (V == z) = false := by rw [beq_eq_false_iff_ne]; exact hvz
                        rw [hne, Bool.false_and] at hst'
                        have hne2 := str_ne hvz
                        go_upto_region 33 with fail
                        refine wp_region_L (SLL (cbS33f g b o m d j V z ok)) (fun L W => Below wb.heap.size wb W ∧ CR W g (if L 1 = true then (textOf l e).2.1 else l) (if L 1 = true then (textOf l e).2.2 else e))
                          [[(10, none)], [(106, some 0)], [(1, none)], [(13, none)], [(108, some 2), (109, some 3)], [(110, some 4)], [(107, some 1), (111, some 5)], [(112, some 6)], [(113, some 7), (11, none)], [(113, some 7), (114, some 8)], [(115, some 9)]]
                          (by kernel_rfl) (by kernel_rfl) (by kernel_rfl) ?start ?vc ?fin
                        case vc =>
                          refine ⟨?_, ?_, ?_, ?_, ?_, ?_, ?_, ?_, ?_, ?_, ?_, trivial⟩
                          · refine vl_of (cbS33f_mono g b o m d j V z ok) (fun L W W' hb h => ⟨below_then h.1 hb h.1.size, h.2.below hb⟩) fun L W0 hc hl hp hW => ?_
                            exact vf_none rfl (f_mov (.inl rfl) fun A W _ h => h.1)
                          · refine vl_call (fun L A W _ => want_none rfl A) rfl Try.func22 rfl (by kernel_rfl) fun L A' W hc hl hp hW h => ?_
                            obtain ⟨h106, _⟩ := h
                            replace h106 : A'.tmps[106]?.getD undef = _ := h106
                            show Calls _ _ #[A'.tmps[106]?.getD undef] _ _
                            rw [h106]
                            have hcr := hW.2
                            rw [hl] at hcr
                            simp only [Bool.false_eq_true, if_false] at hcr
                            refine Calls.mono (readText_any g _ _ _ hcr) ?_
                            rintro r W' ⟨he, cr, gr⟩
                            rw [HV.out] at he
                            subst he
                            refine ⟨_, rfl, ⟨below_grown hW.1 gr hW.1.size hgw, ?_⟩, ⟨pres_is _, pres_is _, pres_is _, pres_is _, pres_is _, pres_is _, pres_is _, pres_is _, pres_is _, pres_is _, pres_is _, trivial⟩, rfl⟩
                            have h1' : upd L 1 1 = true := rfl
                            rw [h1']
                            simp only [if_true]
                            exact cr
                          · refine vl_of (cbS33f_mono g b o m d j V z ok) (fun L W W' hb h => ⟨below_then h.1 hb h.1.size, h.2.below hb⟩) fun L W0 hc hl hp hW => ?_
                            exact vf_none rfl (f_mov (.inl rfl) fun A W _ h => h.1)
                          · refine vl_of (cbS33f_mono g b o m d j V z ok) (fun L W W' hb h => ⟨below_then h.1 hb h.1.size, h.2.below hb⟩) fun L W0 hc hl hp hW => ?_
                            exact vf_none rfl (f_mov (.inl rfl) fun A W _ h => h.1)
                          · refine vl_of (cbS33f_mono g b o m d j V z ok) (fun L W W' hb h => ⟨below_then h.1 hb h.1.size, h.2.below hb⟩) fun L W0 hc hl hp hW => ?_
                            refine vf_none rfl (f_run fun A' W hR h => ?_)
                            obtain ⟨h108, h109, _⟩ := h
                            replace h108 : A'.tmps[108]?.getD undef = _ := h108
                            replace h109 : A'.tmps[109]?.getD undef = _ := h109
                            refine ⟨_, W, ?_, Below.refl _ _, rfl⟩
                            go_simp
                            all_goals omega
                          · refine vl_of (cbS33f_mono g b o m d j V z ok) (fun L W W' hb h => ⟨below_then h.1 hb h.1.size, h.2.below hb⟩) fun L W0 hc hl hp hW => ?_
                            refine vf_none rfl (f_run fun A' W hR h => ?_)
                            obtain ⟨h110, _⟩ := h
                            replace h110 : A'.tmps[110]?.getD undef = _ := h110
                            have hc := Keeps.of_below (below_then hW.1 hR hW.1.size) _ _ cz
                            refine ⟨_, W, ?_, Below.refl _ _, rfl⟩
                            go_simp
                          · refine vl_of (cbS33f_mono g b o m d j V z ok) (fun L W W' hb h => ⟨below_then h.1 hb h.1.size, h.2.below hb⟩) fun L W0 hc hl hp hW => ?_
                            refine vf_none rfl (f_run fun A' W hR h => ?_)
                            obtain ⟨h107, h111, _⟩ := h
                            replace h107 : A'.tmps[107]?.getD undef = _ := h107
                            replace h111 : A'.tmps[111]?.getD undef = _ := h111
                            refine ⟨_, W, ?_, Below.refl _ _, rfl⟩
                            go_simp
                          · refine vl_of (cbS33f_mono g b o m d j V z ok) (fun L W W' hb h => ⟨below_then h.1 hb h.1.size, h.2.below hb⟩) fun L W0 hc hl hp hW => ?_
                            exact vf_none rfl (f_mov (.inl rfl) fun A W _ h => h.1)
                          · refine vl_of (cbS33f_mono g b o m d j V z ok) (fun L W W' hb h => ⟨below_then h.1 hb h.1.size, h.2.below hb⟩) fun L W0 hc hl hp hW => ?_
                            exact vf_no rfl rfl (by decide) (fun A W _ h => h.1) (fun _ => rfl)
                          · refine vl_of (cbS33f_mono g b o m d j V z ok) (fun L W W' hb h => ⟨below_then h.1 hb h.1.size, h.2.below hb⟩) fun L W0 hc hl hp hW => ?_
                            refine vf_none rfl (f_run fun A' W hR h => ?_)
                            obtain ⟨h113, h114, _⟩ := h
                            replace h113 : A'.tmps[113]?.getD undef = _ := h113
                            replace h114 : A'.tmps[114]?.getD undef = _ := h114
                            refine ⟨_, W, ?_, Below.refl _ _, rfl⟩
                            go_simp
                          · refine vl_of (cbS33f_mono g b o m d j V z ok) (fun L W W' hb h => ⟨below_then h.1 hb h.1.size, h.2.below hb⟩) fun L W0 hc hl hp hW => ?_
                            exact vf_none rfl (f_mov (.inr rfl) fun A W _ h => h.1)
                        case fin =>
                          intro L A' W hd hs hl hW he hr
                          obtain ⟨e0, e1, e2, e3, e4, e5, e6, e7, e8, e9, e10, _⟩ := he
                          have hA' := act_after [106, 107, 108, 109, 110, 111, 112, 113, 114, 115, 11] rfl hd hs hr
                          clear hd hs hr
                          replace e0 : A'.tmps[106]?.getD undef = _ := e0
                          replace e1 : A'.tmps[107]?.getD undef = _ := e1
                          replace e2 : A'.tmps[108]?.getD undef = _ := e2
                          replace e3 : A'.tmps[109]?.getD undef = _ := e3
                          replace e4 : A'.tmps[110]?.getD undef = _ := e4
                          replace e5 : A'.tmps[111]?.getD undef = _ := e5
                          replace e6 : A'.tmps[112]?.getD undef = _ := e6
                          replace e7 : A'.tmps[113]?.getD undef = _ := e7
                          replace e8 : A'.tmps[114]?.getD undef = _ := e8
                          replace e9 : A'.tmps[115]?.getD undef = _ := e9
                          replace e10 : A'.tmps[11]?.getD undef = _ := e10
                          simp only [frameAfter, List.contains_cons, List.contains_nil, Nat.reduceBEq, Bool.or_false, Bool.or_true, Bool.or_self, Bool.false_or, Bool.true_or, Bool.false_eq_true, if_true, if_false, Nat.reduceAdd, e0, e1, e2, e3, e4, e5, e6, e7, e8, e9, e10] at hA'
                          subst hA'
                          clear e0 e1 e2 e3 e4 e5 e6 e7 e8 e9 e10
                          have h1 := hl 1 (by decide)
                          obtain ⟨hbw, hcr⟩ := hW
                          rw [h1] at hcr
                          simp only [if_true] at hcr
                          go_wp2_with fail
                          go_roundw
                          case rel => exact ⟨j + 1, _, _, false, by omega, by go_num, rfl, hbw, hcr, hst'⟩
                          case measure => simp [intOf]; omega
                        case start => exact ⟨below_drewN' hbr 1, hcr⟩
                    · obtain rfl : m = j := by omega
                      have hst2 : readAll ((wrote n zs ss).dropLast) n zs ss = (l, e, ok) := by
                        have := hst.out
                        rw [List.take_of_length_le (by rw [hsl.out]; exact Nat.le_refl _)] at this
                        exact this
                      clear hst
                      have hgo := id hcr
                      obtain ⟨_, _, _, hgo, _⟩ := hgo
                      have hcl := cell_of_block (i := 0) hgo rfl
                      clear hgo
                      have hall := readAll_cut n zs ss hzb hs200
                      rw [hst2] at hall
                      have hall : e = 8 := hall
                      subst hall
                      have hE : ended l 8 = 8 := by simp [ended]
                      go_wp2_with (go_at_call 21; refine Calls.mono (end_any g _ 8 _ hcr) ?_; rw [hE]; rintro r _ ⟨rfl, rfl⟩)
                      go_roundw
                      case rel => exact ⟨3, by omega, by go_num, hbr⟩
                      case measure => simp [intOf]
            · go_wp2_with fail
              go_ret
              exact ⟨rfl, below_two hbB hbk⟩

theorem codeBack_top (A : Option Addr) (n c : Nat) (zs : List Int) (S : Option Addr) (m d : Nat) (ss : List (List UInt8)) (w : World) (hA : Vs w A n (zs.map (Value.int .i64))) (hc : n ≤ c) (hc2 : c ≤ 140737488351232) (hzb : ∀ z ∈ zs, -9223372036854775808 ≤ z ∧ z ≤ 9223372036854775807)
    (hS : Vs w S m (ss.map fun s => .string ⟨s.toArray⟩)) (hd : m ≤ d) (hd2 : d ≤ 140737488351232) (hsb : ∀ s ∈ ss, s.length ≤ 9223372036854775807) :
    Calls Try.prog 7 #[.slice A n c, .slice S m d] w fun e w' => e = .returned (.bool true) ∧ Below w.heap.size w w' := by
  by_cases h : 20 < n ∨ 10 < m
  · exact codeBack_none A n c S m d w h (by omega) (by omega)
  · exact codeBack_walk A n c zs S m d ss w hA hc (by omega) hzb hS hd (by omega) hsb (by omega) (by omega)
end Go.Proofs.Ytpbbindeghoaaaa
