/- Records, plain: an append onto a sector of records, while the power is on. No program in sight. append and conversion at bytes; make. A world that has grown, and blocks that one stays away from. No program in sight. slices.Clone at bytes. -/
import Derived.Test.YtcpifcdndhhmgaaRecPlain
import Derived.Test.YtcpifcdndhhmgaaChecked
import Derived.Test.YtcpifcdndhhmgaaLib
import Derived.Lib.AppendZerosOnto
import Derived.Lib.SliceRun
set_option linter.unusedVariables false
set_option linter.unusedSimpArgs false
namespace Go.Proofs.Ytcpifcdndhhmgaa
open Go.RowKit

structure Live (f : FlashSt) : Prop where
  dead : f.dead = false
  left : f.left = 0
  len : f.S.length = 6144
theorem live_new : Live newF := ⟨rfl, rfl, newF_len⟩
theorem pad_piece (x : List UInt8) (i j : Nat) (hj : j < 16) : (pad ((x.drop (16 * i)).take 16)).getD j 0 = x.getD (16 * i + j) 255 := by
  rw [pad_at _ j hj (by simp; omega)]
  simp only [List.length_take, List.length_drop, List.getD_eq_getElem?_getD]
  by_cases h : 16 * i + j < x.length
  · rw [if_pos (by omega), List.getElem?_take, if_pos hj, List.getElem?_drop, List.getElem?_eq_getElem h]
    rfl
  · rw [if_neg (by omega), List.getElem?_eq_none (by omega)]
    rfl
theorem progs_ok (k : Nat) (hk : k < 6) (x : List UInt8) (p : Nat) : ∀ (n i : Nat) (f : FlashSt), Live f → p + i + n ≤ 64 → (∀ m, 16 * (p + i) ≤ m → m < 16 * (p + i + n) → f.S.getD (k * 1024 + m) 0 = 255) →
    ∃ f', progs k p x n i f = (0, f') ∧ Live f' ∧ ∀ m, m < 6144 → f'.S.getD m 0 = if k * 1024 + 16 * (p + i) ≤ m ∧ m < k * 1024 + 16 * (p + i + n) then x.getD (m - (k * 1024 + 16 * p)) 255 else f.S.getD m 0
  | 0, i, f, hL, _, _ => ⟨f, rfl, hL, fun m hm => by rw [if_neg (by omega)]⟩
  | n + 1, i, f, hL, hp, hb => by
    have h1 : progF f k ((p + i : Nat) : Int) ((x.drop (16 * i)).take 16) = (0, doneP f (k * 1024 + (p + i) * 16) ((x.drop (16 * i)).take 16)) :=
      prog_ok f k (p + i) _ hL.dead hL.left hk (by omega) (by simp; omega) (fits_blank _ _ _ fun j hj => by
        have := hb (16 * (p + i) + j) (by omega) (by omega)
        rw [show k * 1024 + (p + i) * 16 + j = k * 1024 + (16 * (p + i) + j) by omega]; exact this)
    obtain ⟨f1, hf1⟩ : ∃ f1, doneP f (k * 1024 + (p + i) * 16) ((x.drop (16 * i)).take 16) = f1 := ⟨_, rfl⟩
    have hL1 : Live f1 := by rw [← hf1]; exact ⟨rfl, rfl, by rw [doneP_len]; exact hL.len⟩
    have hat : ∀ m, m < 6144 → f1.S.getD m 0 = if k * 1024 + (p + i) * 16 ≤ m ∧ m < k * 1024 + (p + i) * 16 + 16 then x.getD (m - (k * 1024 + 16 * p)) 255 else f.S.getD m 0 := fun m hm => by
      rw [← hf1, doneP_at _ _ _ _ (by rw [hL.len]; exact hm)]
      by_cases hc : k * 1024 + (p + i) * 16 ≤ m ∧ m < k * 1024 + (p + i) * 16 + 16
      · rw [if_pos hc, if_pos hc, pad_piece _ _ _ (by omega)]
        congr 1
        omega
      · rw [if_neg hc, if_neg hc]
    rw [hf1] at h1
    clear hf1
    obtain ⟨f', he, hL', hat'⟩ := progs_ok k hk x p n (i + 1) f1 hL1 (by omega) (fun m hm1 hm2 => by
      rw [hat _ (by omega), if_neg (by omega)]
      exact hb m (by omega) (by omega))
    refine ⟨f', ?_, hL', fun m hm => ?_⟩
    · simp only [progs]
      rw [if_pos (by rw [h1]), h1]
      exact he
    · rw [hat' m hm, hat m hm]
      by_cases h2 : k * 1024 + 16 * (p + (i + 1)) ≤ m ∧ m < k * 1024 + 16 * (p + (i + 1) + n)
      · rw [if_pos h2, if_pos (by omega)]
      · rw [if_neg h2]
        by_cases h3 : k * 1024 + (p + i) * 16 ≤ m ∧ m < k * 1024 + (p + i) * 16 + 16
        · rw [if_pos h3, if_pos (by omega)]
        · rw [if_neg h3, if_neg (by omega)]
theorem recP_getD (b : List UInt8) (j : Nat) (hj : j < 16 * pagesN b.length) : (recP b).getD j 0 = (sealed b).getD j 255 := by
  have hl := length_sealed b
  have hg := pagesN_ge b.length
  unfold recP
  simp only [List.getD_eq_getElem?_getD]
  by_cases h : j < (sealed b).length
  · rw [List.getElem?_append_left h, List.getElem?_eq_getElem h]; rfl
  · rw [List.getElem?_append_right (by omega), List.getElem?_replicate, if_pos (by omega), List.getElem?_eq_none (by omega)]; rfl
theorem Packed.at_ {c : List UInt8} {l : List (List UInt8)} (h : Packed c l) (m : Nat) (hm : m < 1024) : c.getD m 0 = if m < 16 * usedP l then (packP l).getD m 0 else 255 := by
  have hl := length_packP l
  conv => lhs; rw [h.eq]
  simp only [List.getD_eq_getElem?_getD]
  by_cases h1 : m < 16 * usedP l
  · rw [if_pos h1, List.getElem?_append_left (by omega)]
  · rw [if_neg h1, List.getElem?_append_right (by omega), List.getElem?_replicate, if_pos (by omega)]; rfl
theorem append_packed (f : FlashSt) (hL : Live f) (k : Nat) (hk : k < 6) (l : List (List UInt8)) (hP : Packed (readF f k) l) (b : List UInt8) (hb : b.length ≤ 1018) (hu : usedP l + pagesN b.length ≤ 64) :
    ∃ f', appendP f k b = (0, f') ∧ Live f' ∧ Packed (readF f' k) (l ++ [b]) ∧ ∀ j, j < 6 → j ≠ k → readF f' j = readF f j := by
  have hS : ∀ m, m < 1024 → f.S.getD (k * 1024 + m) 0 = if m < 16 * usedP l then (packP l).getD m 0 else 255 := fun m hm => by
    have h1 : (readF f k).getD m 0 = f.S.getD (k * 1024 + m) 0 := by rw [List.getD_eq_getElem?_getD, read_at f k hk hL.len m hm]; rfl
    rw [← hP.at_ m hm, h1]
  obtain ⟨f', he, hL', hat⟩ := progs_ok k hk (sealed b) (usedP l) (pagesN b.length) 0 f hL (by omega) (fun m h1 h2 => by rw [hS m (by omega), if_neg (by omega)])
  refine ⟨f', ?_, hL', ?_, ?_⟩
  · unfold appendP
    rw [if_neg (by omega), if_neg (by omega), hP.load, if_neg (by dsimp only; omega)]
    exact he
  · have hused : usedP (l ++ [b]) = usedP l + pagesN b.length := usedP_snoc b l
    refine ⟨?_, by omega, fun x hx => by
      rcases List.mem_append.1 hx with h | h
      · exact hP.short x h
      · simp at h; subst h; exact hb⟩
    rw [hused]
    have hlp := length_packP l
    have hlp2 := length_packP (l ++ [b])
    rw [hused] at hlp2
    apply List.ext_getElem?
    intro m
    by_cases hm : m < 1024
    · rw [read_at f' k hk hL'.len m hm, hat _ (by omega)]
      by_cases h1 : m < 16 * usedP l
      · rw [if_neg (by omega), hS m hm, if_pos h1, List.getElem?_append_left (by omega), packP_snoc, List.getElem?_append_left (by omega), List.getD_eq_getElem?_getD, List.getElem?_eq_getElem (by omega)]; rfl
      · by_cases h2 : m < 16 * (usedP l + pagesN b.length)
        · rw [if_pos (by omega), List.getElem?_append_left (by omega), packP_snoc, List.getElem?_append_right (by omega), hlp]
          have hr := recP_getD b (m - 16 * usedP l) (by omega)
          have hlr := length_recP b
          rw [List.getD_eq_getElem?_getD, List.getElem?_eq_getElem (by omega)] at hr
          rw [List.getElem?_eq_getElem (by omega)]
          congr 1
          rw [show k * 1024 + m - (k * 1024 + 16 * usedP l) = m - 16 * usedP l by omega]
          exact hr.symm
        · rw [if_neg (by omega), hS m hm, if_neg h1, List.getElem?_append_right (by omega), List.getElem?_replicate, if_pos (by omega)]
    · have hr := read_len f' k hk hL'.len
      rw [List.getElem?_eq_none (by omega), List.getElem?_eq_none (by rw [List.length_append, hlp2, List.length_replicate]; omega)]
  · intro j hj hne
    apply List.ext_getElem?
    intro m
    by_cases hm : m < 1024
    · rw [read_at f' j hj hL'.len m hm, read_at f j hj hL.len m hm, hat _ (by omega), if_neg (by omega)]
    · rw [List.getElem?_eq_none (by rw [read_len f' j hj hL'.len]; omega), List.getElem?_eq_none (by rw [read_len f j hj hL.len]; omega)]
theorem append_full (f : FlashSt) (k : Nat) (hk : k < 6) (l : List (List UInt8)) (hP : Packed (readF f k) l) (b : List UInt8) (hb : b.length ≤ 1018) (hu : 64 < usedP l + pagesN b.length) : appendP f k b = (4, f) := by
  unfold appendP
  rw [if_neg (by omega), if_neg (by omega), hP.load, if_pos (by dsimp only; omega)]
theorem packed_new (k : Nat) (hk : k < 6) : Packed (readF newF k) [] := by
  refine ⟨?_, by simp [usedP], by simp⟩
  rw [show packP [] = [] from rfl, show usedP [] = 0 from rfl, List.nil_append, Nat.mul_zero, Nat.sub_zero]
  apply List.ext_getElem?
  intro m
  rw [List.getElem?_replicate]
  by_cases hm : m < 1024
  · rw [read_at newF k hk newF_len m hm, newF_at _ (by omega), if_pos hm]
  · rw [List.getElem?_eq_none (by rw [read_len newF k hk newF_len]; omega), if_neg hm]
end Go.Proofs.Ytcpifcdndhhmgaa
set_option linter.unusedVariables false
set_option linter.unusedSimpArgs false
namespace Go.Proofs.Ytcpifcdndhhmgaa
open Go.RowKit

theorem byteInfo : (Try.prog.info? 5).map (fun i => (i.zero, i.size, i.bytes)) = some (some (.int .u8 0), 1, 1) := by kernel_rfl

/-- append onto bytes of the call's own -/
theorem appendB (w : World) {ops : Array Oper} {rest : List Oper} {o : Oper} {a : Act} {Q : Exit → Act → World → Prop} (hgd : o.guard = none) (s x : Operand)
    (ho : o.op = .call { callee := .builtin .append, args := #[s, x], argTypes := #[27, 27] })
    (base : Nat) (v : Value) (n : Nat) (l : List UInt8) (hs : a.eval s = v) (hown : w.ownsRow base 5 1 v n (bv l))
    (A : Option Addr) (m c : Nat) (k : List UInt8) (hx : a.eval x = .slice A m c) (hr : Bs w A m k) (hb : n + m ≤ 70368744177664) (hbase : base ≤ w.heap.size)
    (h : ∀ v' w', w'.ownsRow base 5 1 v' (n + m) (bv (l ++ k)) → w.grownBy w' v.ownBlock → (v'.ownBlock = v.ownBlock ∨ v'.ownBlock = some w.heap.size) → wpList Try.prog ops Q rest (a.put o.dst v') w') : wpList Try.prog ops Q (o :: rest) a w := by
  obtain ⟨i0, hi0, hz0, hz1, hz2⟩ := info_parts byteInfo
  refine wpList_append_V w hgd s x 27 ho base 5 i0 (.int .u8 0) 1 Try.underlying27 hi0 hz0 hz1 hz2 rfl v n (bv l) hs hown A m c (bv k) hx hr (bv_one k) (by omega) (by simp only [maxLen]; omega) hbase ?_
  intro v' w' h1 h2 h3
  rw [← bv_append] at h1
  exact h v' w' h1 h2 h3
/-- string(b) -/
theorem convB {w : World} {A : Option Addr} {n c : Nat} {l : List UInt8} (h : Bs w A n l) :
    (convert 27 9 (.slice A n c)).run Try.prog w = .ok (.string ⟨l.toArray⟩) w := by
  rw [run_convert_bytes_string (P := Try.prog) w 27 9 5 A n c Try.underlying27 Try.underlying5 Try.underlying9]
  rcases A with _ | ad
  · have h0 : n = 0 := by
      rcases Nat.eq_zero_or_pos n with h' | h'
      · exact h'
      · obtain ⟨_, _, h', _⟩ := h.2 h'; cases h'
    subst h0
    have hl : l = [] := List.eq_nil_of_length_eq_zero h.len
    subst hl
    rfl
  · have hlen := h.len
    have hload : (loadCells ad n).run Try.prog w = .ok ((l.map fun u => (u.toNat : Int)).map (Value.int .u8)).toArray w := by
      rcases Nat.eq_zero_or_pos n with h' | h'
      · subst h'
        have hl : l = [] := List.eq_nil_of_length_eq_zero hlen
        subst hl
        rfl
      · obtain ⟨b, o, e, hc⟩ := h.2 h'
        injection e with e; subst e
        have := run_loadCells_list (P := Try.prog) w ⟨b, o, none⟩ (bv l) (fun j u hu => by rw [Addr.add_lit]; exact hc j u hu)
        rw [length_bv, hlen] at this
        rw [this]
        simp [bv]
    rw [run_bytesToString w ad n c _ hload, foldl_push_bytes]
    simp only [List.map_map]
    have : (fun n : Int => UInt8.ofNat n.toNat) ∘ (fun u : UInt8 => (u.toNat : Int)) = id := by funext u; simp
    rw [this, List.map_id]
    have : (ByteArray.empty).data ++ l.toArray = l.toArray := by
      show #[] ++ l.toArray = l.toArray
      simp
    rw [this]

set_option maxRecDepth 100000 in
/-- make([]byte, n) -/
theorem makeBytes (n : Nat) (hn : n ≤ 140737488355328) (W : World) :
    (Instr.makeSlice 27 (.int .i64 (n : Int)) (.int .i64 (n : Int))).run Try.prog W = .ok (.slice (some ⟨W.heap.size, 0, none⟩) n n) (W.alloc (.cells (bv (List.replicate n 0)).toArray 5)) := by
  obtain ⟨i0, hi0, hz0, hz1, hz2⟩ := info_parts byteInfo
  have hr := run_make (P := Try.prog) W 27 5 i0 (.int .u8 0) Try.underlying27 hi0 hz0 .i64 .i64 n n (by omega) (by omega) (by rw [hz2]; omega) (by omega)
  simp only [Int.toNat_natCast, hz1, Nat.mul_one, Value.cells] at hr
  rw [hr]
  congr 3
  apply Array.toList_inj.1
  rw [toList_madeCells_one]
  simp [bv]
end Go.Proofs.Ytcpifcdndhhmgaa
set_option linter.unusedVariables false
set_option linter.unusedSimpArgs false
namespace Go.Proofs.Ytcpifcdndhhmgaa
open Go.RowKit
theorem grown_set (w : World) (g k : Nat) (u : Value) : w.grownBy (w.setCell ⟨g, k, none⟩ u) (some g) :=
  ⟨rfl, rfl, rfl, by simp, fun i _ hne => Below.heap_setCell _ _ _ _ (fun e => hne (by rw [e]))⟩
theorem grown_trans {a b c : World} {r : Option Nat} (h : a.grownBy b r) (k : b.grownBy c r) : a.grownBy c r :=
  ⟨k.os.trans h.os, k.tape.trans h.tape, k.output.trans h.output, Nat.le_trans h.size k.size, fun i hi hne => (k.block i (Nat.lt_of_lt_of_le hi h.size) hne).trans (h.block i hi hne)⟩
theorem grown_refl (a : World) (r : Option Nat) : a.grownBy a r := ⟨rfl, rfl, rfl, Nat.le_refl _, fun _ _ _ => rfl⟩
theorem grown_below {W W' : World} (hb : Below W.heap.size W W') (r : Option Nat) : W.grownBy W' r := ⟨hb.os, hb.tape, hb.output, hb.size, fun i hi _ => hb.block i hi⟩
theorem grown_drew (w : World) (n : Nat) (r : Option Nat) : w.grownBy (w.drewN n) r := ⟨rfl, rfl, rfl, Nat.le_refl _, fun _ _ _ => rfl⟩
theorem below_grown {B g : Nat} {w0 w w' : World} (hb : Below B w0 w) (hg : w.grownBy w' (some g)) (hB : B ≤ w.heap.size) (hgB : B ≤ g) : Below B w0 w' :=
  hb.grown hg hB fun k hk => by injection hk with hk; omega
def InQ (Q : Nat → Prop) (A : Option Addr) : Prop := ∀ a, A = some a → Q a.block
theorem inQ_none (Q : Nat → Prop) : InQ Q none := fun a e => by cases e
/-- a slice that lies elsewhere than block g -/
def Away (g : Nat) (A : Option Addr) : Prop := ∀ a, A = some a → a.block ≠ g
theorem InQ.away {Q : Nat → Prop} {g : Nat} {A : Option Addr} (h : InQ Q A) (hQ : ∀ b, Q b → b ≠ g) : Away g A := fun a e => hQ _ (h a e)
theorem Bs.grownKeep {W W' : World} {A : Option Addr} {n g : Nat} {l : List UInt8} (h : Bs W A n l) (hg : W.grownBy W' (some g)) (hne : Away g A) : Bs W' A n l :=
  ⟨h.1, fun hn => by
    obtain ⟨b, o, e, hc⟩ := h.2 hn
    exact ⟨b, o, e, fun i u hu => hg.cell (hc i u hu) (fun h => hne _ e (by injection h))⟩⟩
/-- bytes that there are lie below -/
theorem Bs.inQ {W : World} {A : Option Addr} {n : Nat} {l : List UInt8} (h : Bs W A n l) : 0 < n → InQ (fun b => b < W.heap.size) A := fun h0 a e => by
  obtain ⟨b, o, e', hc'⟩ := h.2 h0
  have := World.block_lt_of_cell? W _ (hc' 0 _ (bv_get l 0 (by rw [h.len]; exact h0)))
  rw [e'] at e
  injection e with e
  subst e
  exact this
theorem Bs.grownKeep0 {W W' : World} {A : Option Addr} {n g : Nat} {l : List UInt8} (h : Bs W A n l) (hg : W.grownBy W' (some g)) (hne : 0 < n → Away g A) : Bs W' A n l :=
  ⟨h.1, fun hn => (h.grownKeep hg (hne hn)).2 hn⟩
end Go.Proofs.Ytcpifcdndhhmgaa
set_option linter.unusedVariables false
set_option linter.unusedSimpArgs false
namespace Go.Proofs.Ytcpifcdndhhmgaa
open Go.RowKit



theorem clone_any (A : Option Addr) (n c : Nat) (l : List UInt8) (w : World) (hA : Bs w A n l) (hn : n ≤ 140737488355328) :
    Calls Try.prog 63 #[.slice A n c] w fun e w' => ∃ v, e = .returned v ∧ w'.ownsRow w.heap.size 5 1 v n (bv l) ∧ Below w.heap.size w w' := by
  obtain ⟨i0, hi0, hz0, hz1, hz2⟩ := info_parts byteInfo
  have hnil := fun W => Lib.run_eql_slice_nil (P := Try.prog) W 27 5 A n c 0 0 Try.underlying27
  rcases A with _ | ad
  · have h0 : n = 0 := by
      rcases Nat.eq_zero_or_pos n with h | h
      · exact h
      · obtain ⟨_, _, h, _⟩ := hA.2 h; cases h
    subst h0
    have hl : l = [] := List.eq_nil_of_length_eq_zero hA.len
    subst hl
    clear hA
    go_enter Try.func63, Try.ntmps63
    go_wp2
    go_ret
    exact ⟨_, rfl, World.ownsRow_nil _ _ _ _, Below.refl _ _⟩
  · go_enter Try.func63, Try.ntmps63
    go_wp2_with (at_builtin; refine wpList_append_V _ rfl (.tmp 5) (.tmp 6) 27 rfl w.heap.size 5 i0 (.int .u8 0) 1 Try.underlying27 hi0 hz0 hz1 hz2 rfl (.slice (some ⟨w.heap.size, 0, none⟩) 0 0) 0 [] rfl (World.ownsRow_made w #[] 0 (Nat.le_refl _) (by simp [maxLen]) rfl) (some ad) n c (bv l) rfl (hA.alloc _) (bv_one l) (by omega) (by simp only [maxLen]; omega) (by simp) ?_; intro v1 w1 hown1 hg1 hat1)
    go_ret
    have hb := (Below.refl w.heap.size w).alloc (Nat.le_refl _) (.cells #[] 5)
    rw [Nat.zero_add, List.nil_append] at hown1
    exact ⟨_, rfl, hown1, hb.grown hg1 (by simp) (by simp [Value.ownBlock])⟩
end Go.Proofs.Ytcpifcdndhhmgaa
