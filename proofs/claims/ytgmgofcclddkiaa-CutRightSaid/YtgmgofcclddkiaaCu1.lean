/- The parts of cut that ask of claims: May, the test in Agree, slices.ContainsFunc over it. -/
import Derived.Test.YtgmgofcclddkiaaCuR
import Derived.Test.YtgmgofcclddkiaaCuL
import Derived.BigQuiet
import Derived.Deep.Cut
import Derived.Deep.CutBlock
namespace Go.Proofs.Ytgmgofcclddkiaa
open Go.RowKit Go.Maps Go.WideShapes

/-- a claim's three cells -/
def rowC (c : Clm) : List Value := [.int .i64 c.1, .int .i64 c.2.1, .int .i64 c.2.2]
def aggC (c : Clm) : Value := .agg #[.int .i64 c.1, .int .i64 c.2.1, .int .i64 c.2.2]
/-- numbers of 64 bits -/
def okC (c : Clm) : Prop := (-9223372036854775808 ≤ c.1 ∧ c.1 ≤ 9223372036854775807) ∧ (-9223372036854775808 ≤ c.2.1 ∧ c.2.1 ≤ 9223372036854775807) ∧ (-9223372036854775808 ≤ c.2.2 ∧ c.2.2 ≤ 9223372036854775807)
/-- a slice of claims -/
def ClmsAt (w : World) (v : Value) (xs : List Clm) : Prop := RowsAt w v 3 (xs.map rowC)

theorem ClmsAt.cells {w : World} {v : Value} {xs : List Clm} (h : ClmsAt w v xs) : ∃ a cap, v = .slice a xs.length cap ∧ (0 < xs.length → ∃ b o, a = some ⟨b, o, none⟩ ∧ ∀ j x, xs[j]? = some x → b < w.heap.size ∧
    w.cell? ⟨b, o + j * 3, none⟩ = some (.int .i64 x.1) ∧ w.cell? ⟨b, o + j * 3 + 1, none⟩ = some (.int .i64 x.2.1) ∧ w.cell? ⟨b, o + j * 3 + 2, none⟩ = some (.int .i64 x.2.2)) := by
  obtain ⟨hl, a, cap, rfl, hc⟩ := h
  simp only [List.length_map] at hc ⊢
  refine ⟨a, cap, rfl, fun h0 => ?_⟩
  obtain ⟨b, o, rfl, hc2⟩ := hc h0
  refine ⟨b, o, rfl, fun j x hx => ?_⟩
  have hj : j < xs.length := by
    rcases Nat.lt_or_ge j xs.length with h | h
    · exact h
    · rw [List.getElem?_eq_none h] at hx; cases hx
  have hxj : xs[j] = x := by rw [List.getElem?_eq_getElem hj] at hx; simpa using hx
  obtain ⟨_, hf⟩ := hc2 j hj
  have f0 := hf 0 (by omega)
  have f1 := hf 1 (by omega)
  have f2 := hf 2 (by omega)
  simp only [List.getElem_map, hxj, rowC] at f0 f1 f2
  exact ⟨f0.1, by simpa using f0.2, by simpa [Nat.add_assoc] using f1.2, by simpa [Nat.add_assoc] using f2.2⟩

/-- claims stay where they are -/
theorem ClmsAt.keep {w w' : World} {v : Value} {xs : List Clm} (h : ClmsAt w v xs) (hb : Below w.heap.size w w') : ClmsAt w' v xs := by
  obtain ⟨hl, a, cap, rfl, hc⟩ := h
  refine ⟨hl, a, cap, rfl, fun h0 => ?_⟩
  obtain ⟨b, o, rfl, hc2⟩ := hc h0
  refine ⟨b, o, rfl, fun j hj => ?_⟩
  obtain ⟨h1, h2⟩ := hc2 j hj
  refine ⟨h1, fun f hf => ?_⟩
  obtain ⟨g1, g2⟩ := h2 f hf
  exact ⟨Nat.lt_of_lt_of_le g1 hb.size, by rw [hb.cell (p := ⟨b, _, none⟩) g1]; exact g2⟩

theorem ret_bool {a b : Bool} (h : a = b) : Ending.returned (.bool a) = .returned (.bool b) := by rw [h]

set_option maxRecDepth 100000 in
set_option maxHeartbeats 1000000 in
theorem may_any (c : Clm) (w : World) : Calls Try.prog 37 #[aggC c] w fun e w' => e = .returned (.bool (mayB c)) ∧ w' = w.alloc (.cells #[.int .i64 c.1, .int .i64 c.2.1, .int .i64 c.2.2] 62) := by
  unfold aggC mayB
  obtain ⟨i, l, h⟩ := c
  show Calls Try.prog 37 #[.agg #[.int .i64 i, .int .i64 l, .int .i64 h]] w fun e w' => e = .returned (.bool (decide (0 ≤ i) && decide (l ≤ h) && decide (-1152921504606846976 ≤ l) && decide (h ≤ 1152921504606846976))) ∧ w' = w.alloc (.cells #[.int .i64 i, .int .i64 l, .int .i64 h] 62)
  by_cases h1 : 0 ≤ i
  · by_cases h2 : l ≤ h
    · by_cases h3 : -1152921504606846976 ≤ l
      · by_cases h4 : h ≤ 1152921504606846976
        all_goals
          go_enter Try.func37, Try.ntmps37
          go_wp2
          go_ret
          exact ⟨by simp [h1, h2, h3, h4], rfl⟩
      · go_enter Try.func37, Try.ntmps37
        go_wp2
        go_ret
        exact ⟨ret_bool (by simp; omega), rfl⟩
    · go_enter Try.func37, Try.ntmps37
      go_wp2
      go_ret
      exact ⟨ret_bool (by simp; omega), rfl⟩
  · go_enter Try.func37, Try.ntmps37
    go_wp2
    go_ret
    exact ⟨ret_bool (by simp; omega), rfl⟩
/-- the test in Agree -/
theorem test_any (c : Clm) (w : World) : Calls Try.prog 39 #[aggC c] w fun e w' => e = .returned (.bool (!mayB c)) ∧ Below w.heap.size w w' := by
  have hm := Lib.hid (fun W => may_any c W)
  unfold aggC at hm ⊢
  generalize mayB c = r at hm ⊢
  go_enter Try.func39, Try.ntmps39
  go_wp2_with fail
  refine (hm.out _).mono ?_
  rintro e w' ⟨rfl, hw⟩
  have HW := Lib.hid hw
  clear hw
  go_wp2_with fail
  go_ret
  exact ⟨rfl, by rw [HW.out]; exact ((Below.refl _ w).alloc (Nat.le_refl _) _).alloc (by simp) _⟩

/-- slices.IndexFunc's answer -/
def IdxPost (w : World) (cs : List Clm) (e : Ending) (w' : World) : Prop :=
  ∃ r : Int, e = .returned (.int .i64 r) ∧ (decide (0 ≤ r) = cs.any (fun c => !mayB c)) ∧ (-1 ≤ r ∧ r ≤ 9223372036854775807) ∧ Below w.heap.size w w'

theorem any_take_succ (cs : List Clm) (k : Nat) (hk : k < cs.length) : (cs.take (k + 1)).any (fun c => !mayB c) = ((cs.take k).any (fun c => !mayB c) || !mayB cs[k]) := by
  rw [List.take_succ_eq_append_getElem hk, List.any_append]; simp

theorem any_take_of {cs : List Clm} {k : Nat} (h : (cs.take k).any (fun c => !mayB c) = true) : cs.any (fun c => !mayB c) = true := by
  rw [List.any_eq_true] at h ⊢
  obtain ⟨x, hx, h⟩ := h
  exact ⟨x, List.mem_of_mem_take hx, h⟩

set_option maxRecDepth 100000 in
set_option maxHeartbeats 4000000 in
theorem index_any (w : World) (v : Value) (cs : List Clm) (hc : ClmsAt w v cs) :
    Calls Try.prog 46 #[v, .func (.func 39) #[] #[]] w (IdxPost w cs) := by
  have hml := hc.1
  rw [List.length_map] at hml
  obtain ⟨a, cap, rfl, hcells⟩ := hc.cells
  have hml2 : cs.length ≤ 9223372036854775807 := by unfold maxLen at hml; omega
  have HC := Lib.hid hcells
  clear hcells hc hml
  go_enter Try.func46, Try.ntmps46
  go_wp2
  go_loopw [8] (fun i wr => ∃ k : Nat, k ≤ cs.length ∧ i = .int .i64 k ∧ Hid (Below w.heap.size w wr) ∧ Hid ((cs.take k).any (fun c => !mayB c) = false)) (fun i _ => cs.length - (RowKit.intOf i).toNat)
  case atStart => exact ⟨0, Nat.zero_le _, rfl, Below.refl _ _, rfl⟩
  case round =>
    obtain ⟨k, hk, rfl, HB, HA⟩ := hrel
    by_cases hlt : k < cs.length
    · obtain ⟨b, o, rfl, hcl⟩ := HC.out (by omega)
      obtain ⟨hb, c0, c1, c2⟩ := hcl k cs[k] (List.getElem?_eq_getElem hlt)
      rw [← HB.out.cell (p := ⟨b, _, none⟩) hb] at c0 c1 c2
      obtain ⟨c, hcc⟩ : ∃ c, c = cs[k] := ⟨_, rfl⟩
      rw [← hcc] at c0 c1 c2
      have HCC := Lib.hid hcc
      have ht := Lib.hid (fun W => test_any c W)
      have hstep := any_take_succ cs k hlt
      rw [← hcc, HA.out, Bool.false_or] at hstep
      have HS := Lib.hid hstep
      clear hcl hb hcc hstep
      unfold aggC at ht
      cases hmay : mayB c with
      | true =>
        rw [hmay] at ht
        have HM := Lib.hid hmay
        clear hmay
        go_wp2_with fail
        refine (ht.out _).mono ?_
        rintro e w1 ⟨rfl, hb⟩
        have HB1 := Lib.hid (HB.out.trans (hb.mono HB.out.size))
        clear hb ht c0 c1 c2
        go_wp2
        go_roundw
        case rel => exact ⟨k + 1, by omega, by go_num, HB1, by show _ = _; rw [HS.out, HM.out]; rfl⟩
        case measure => simp [RowKit.intOf]; omega
      | false =>
        rw [hmay] at ht
        have HM := Lib.hid hmay
        clear hmay
        go_wp2_with fail
        refine (ht.out _).mono ?_
        rintro e w1 ⟨rfl, hb⟩
        have HB1 := Lib.hid (HB.out.trans (hb.mono HB.out.size))
        clear hb ht c0 c1 c2
        go_wp2
        go_ret
        refine ⟨(k : Int), rfl, ?_, by omega, HB1.out⟩
        rw [any_take_of (k := k + 1) (by rw [HS.out, HM.out]; rfl)]
        simp
    · obtain rfl : k = cs.length := by omega
      go_wp2
      go_ret
      refine ⟨-1, rfl, ?_, by omega, HB.out⟩
      have := HA.out
      rw [List.take_length] at this
      rw [this]; rfl

/-- slices.ContainsFunc over the test -/
theorem contains_any (w : World) (v : Value) (cs : List Clm) (hc : ClmsAt w v cs) :
    Calls Try.prog 38 #[v, .func (.func 39) #[] #[]] w fun e w' => e = .returned (.bool (cs.any (fun c => !mayB c))) ∧ Below w.heap.size w w' := by
  have hi := Lib.hid (index_any w v cs hc)
  generalize hr : cs.any (fun c => !mayB c) = r
  have HR := Lib.hid hr
  clear hr hc
  go_enter Try.func38, Try.ntmps38
  go_wp2_with fail
  refine hi.out.mono ?_
  rintro e w1 ⟨i, rfl, hd, hb1, hb⟩
  have hd2 : decide (0 ≤ i) = r := hd.trans HR.out
  have HB := Lib.hid hb
  clear hd hb
  go_wp2_with fail
  go_ret
  exact ⟨rfl, HB.out⟩

/-- the middle of a stretch, at the law's two places -/
theorem middle_a (w : World) : Calls Try.prog 36 #[.int .i64 8, .int .i64 11] w fun e w' => e = .returned (.int .i64 9) ∧ w = w' := by
  go_enter Try.func36, Try.ntmps36
  go_wp2
  go_ret
  exact ⟨show Ending.returned (.int .i64 (wrap64 (bits BinOp.and IntKind.i64 8 11 + bits BinOp.xor IntKind.i64 8 11 / 2))) = _ by rw [show wrap64 (bits BinOp.and IntKind.i64 8 11 + bits BinOp.xor IntKind.i64 8 11 / 2) = 9 by decide +kernel], rfl⟩
theorem middle_b (w : World) : Calls Try.prog 36 #[.int .i64 (-3), .int .i64 (-2)] w fun e w' => e = .returned (.int .i64 (-3)) ∧ w = w' := by
  go_enter Try.func36, Try.ntmps36
  go_wp2
  go_ret
  exact ⟨show Ending.returned (.int .i64 (wrap64 (bits BinOp.and IntKind.i64 (-3) (-2) + bits BinOp.xor IntKind.i64 (-3) (-2) / 2))) = _ by rw [show wrap64 (bits BinOp.and IntKind.i64 (-3) (-2) + bits BinOp.xor IntKind.i64 (-3) (-2) / 2) = -3 by decide +kernel], rfl⟩
end Go.Proofs.Ytgmgofcclddkiaa
