/- The buffer's law's awake answers true, whatever the memory. -/
import Derived.Test.YtgmgofcclddkiaaAt
namespace Go.Proofs.Ytgmgofcclddkiaa
open Go.RowKit Go.Maps Go.WideShapes

def sA : ByteArray := { data := #[97] }
def sB : ByteArray := { data := #[98] }
def sC : ByteArray := { data := #[99] }
def sD : ByteArray := { data := #[100] }
def sX : ByteArray := { data := #[120] }

theorem hasT_eq (L : Things) (i : Int) (t : ByteArray) {b : Bool} (h : (i, t) ∈ L ↔ b = true) : hasT L i t = b := by
  cases b with
  | true => exact (hasT_iff L i t).2 (h.2 rfl)
  | false =>
    cases hh : hasT L i t
    · rfl
    · exact absurd (h.1 ((hasT_iff L i t).1 hh)) (by simp)

theorem aw1 : putE 2 1 [] 5 sA = 0 := by
  unfold putE; rw [hasT_eq (b := false) _ _ _ (by simp)]; decide
theorem aw2 : putE 2 1 [(5, sA)] 5 sB = 0 := by
  unfold putE; rw [hasT_eq (b := false) _ _ _ (by simp [sA, sB])]; decide
theorem aw3 : putE 2 1 [(5, sA), (5, sB)] 5 sC = 4 := by
  unfold putE; rw [hasT_eq (b := false) _ _ _ (by simp [sA, sB, sC])]; decide
theorem aw4 : putE 2 1 [(5, sA), (5, sB)] 6 sD = 4 := by
  unfold putE; rw [hasT_eq (b := false) _ _ _ (by simp [sA, sB, sD])]; decide
theorem aw5 : putE 2 1 [(5, sA), (5, sB)] 5 sA = 11 := by
  unfold putE; rw [hasT_eq (b := true) _ _ _ (by simp [sA, sB])]; decide
theorem aw6 : putE 2 1 [] 0 sX = 1 := by
  unfold putE; decide
theorem aw7 : putE 2 1 [] 6 sD = 0 := by
  unfold putE; rw [hasT_eq (b := false) _ _ _ (by simp)]; decide
theorem aw8 : hasT [(5, sA), (5, sB)] 5 sB = true := hasT_eq (b := true) _ _ _ (by simp [sA, sB])


theorem small1 (t : ByteArray) (h : t.size ≤ 1000) : t.size ≤ maxLen := by unfold maxLen; omega

set_option maxRecDepth 100000 in
set_option maxHeartbeats 4000000 in
theorem awake_any (w : World) : Calls Try.prog 13 #[] w fun e w' => e = .returned (.bool true) ∧ Below w.heap.size w w' := by
  have b0 := Below.refl w.heap.size w
  go_enter Try.func13, Try.ntmps13
  go_wp2_with fail
  refine (BufAt.new (B := w.heap.size) (w0 := w) b0 (Nat.le_refl _) [] (by simp) 2 1 (by decide) (by decide) (by decide) (by decide)).mono ?_
  rintro e w1 ⟨rfl, h1, _, _⟩
  have H1 : Hid (BufAt w.heap.size w w1 (w.heap.size + 1) 2 1 [] 0 []) := h1
  clear h1 b0
  go_wp2_with fail
  refine (new_bad 0 1 (by omega)).mono ?_
  rintro e w1' ⟨rfl, rfl⟩
  go_wp2_with fail
  refine (BufAt.put' H1.out 5 sA (by decide) (by decide) (small1 _ (by decide)) (by decide) (by decide) (by decide) (L' := [(5, sA)]) (dr' := 0) aw1 rfl rfl).mono ?_
  rintro e w2 ⟨rfl, h, hs⟩
  have H2 := Lib.hid h
  have S2 := Lib.hid hs
  clear h hs
  go_wp2_with fail
  refine (BufAt.put' H2.out 5 sB (by decide) (by decide) (small1 _ (by decide)) (by decide) (by decide) (by decide) (L' := [(5, sA), (5, sB)]) (dr' := 0) aw2 rfl rfl).mono ?_
  rintro e w3 ⟨rfl, h, hs⟩
  have H3 := Lib.hid h
  have S3 := Lib.hid hs
  clear h hs
  go_wp2_with fail
  refine (BufAt.put' H3.out 5 sC (by decide) (by decide) (small1 _ (by decide)) (by decide) (by decide) (by decide) (L' := [(5, sA), (5, sB)]) (dr' := 1) aw3 rfl rfl).mono ?_
  rintro e w4 ⟨rfl, h, hs⟩
  have H4 := Lib.hid h
  have S4 := Lib.hid hs
  clear h hs
  go_wp2_with fail
  refine (BufAt.put' H4.out 6 sD (by decide) (by decide) (small1 _ (by decide)) (by decide) (by decide) (by decide) (L' := [(5, sA), (5, sB)]) (dr' := 2) aw4 rfl rfl).mono ?_
  rintro e w5 ⟨rfl, h, hs⟩
  have H5 := Lib.hid h
  have S5 := Lib.hid hs
  clear h hs
  go_wp2_with fail
  refine (BufAt.put' H5.out 5 sA (by decide) (by decide) (small1 _ (by decide)) (by decide) (by decide) (by decide) (L' := [(5, sA), (5, sB)]) (dr' := 2) aw5 rfl rfl).mono ?_
  rintro e w6 ⟨rfl, h, hs⟩
  have H6 := Lib.hid h
  have S6 := Lib.hid hs
  clear h hs
  go_wp2_with fail
  refine H6.out.sizeC.mono ?_
  rintro e w' ⟨rfl, rfl⟩
  go_wp2_with fail
  refine H6.out.droppedC.mono ?_
  rintro e w' ⟨rfl, rfl⟩
  go_wp2_with fail
  refine (H6.out.hasC 5 sB (by decide) (by decide) (small1 _ (by decide))).mono ?_
  rintro e w' ⟨rfl, rfl⟩
  rw [aw8]
  go_wp2_with fail
  refine H6.out.intervals.mono ?_
  rintro e w7 ⟨v7, rfl, hrow, h, hs⟩
  have hrow : w7.ownsRow w6.heap.size 3 1 v7 1 [Value.int .i64 5] := hrow
  obtain ⟨g7, cap7, rfl, hg1, hg2, hc7⟩ := row_cells hrow (by decide)
  have H7 : Hid (BufAt w.heap.size w w7 (w.heap.size + 1) 2 1 [(5, sA), (5, sB)] 2 [g7]) := h
  have C7 : Hid (w7.cell? ⟨g7, 0, none⟩ = some (.int .i64 5)) := hc7 0 (by decide)
  clear hrow h hs hc7
  go_wp2_with fail
  refine (H7.out.take 5 (by decide) (by decide) (by decide)).mono ?_
  rintro e w8 ⟨v8, rfl, hrow, h, hs⟩
  have hrow : w8.ownsRow w7.heap.size 9 1 v8 2 [Value.string sA, Value.string sB] := hrow
  obtain ⟨g8, cap8, rfl, hg3, hg4, hc8⟩ := row_cells hrow (by decide)
  have H8 : Hid (BufAt w.heap.size w w8 (w.heap.size + 1) 2 1 [] 2 [g8, g7]) := h
  have S8 := Lib.hid hs
  have C8 : Hid (w8.cell? ⟨g8, 1, none⟩ = some (.string sB)) := hc8 1 (by decide)
  clear hrow h hs hc8
  go_wp2_with fail
  refine (BufAt.put' H8.out 0 sX (by decide) (by decide) (small1 _ (by decide)) (by decide) (by decide) (by decide) (L' := []) (dr' := 2) aw6 rfl rfl).mono ?_
  rintro e w9 ⟨rfl, h, hs⟩
  have H9 := Lib.hid h
  have S9 := Lib.hid hs
  clear h hs
  go_wp2_with fail
  refine (BufAt.put' H9.out 6 sD (by decide) (by decide) (small1 _ (by decide)) (by decide) (by decide) (by decide) (L' := [(6, sD)]) (dr' := 2) aw7 rfl rfl).mono ?_
  rintro e w10 ⟨rfl, h, hs⟩
  have H10 := Lib.hid h
  have S10 := Lib.hid hs
  clear h hs
  have k7 : w10.cell? ⟨g7, 0, none⟩ = some (.int .i64 5) := (World.cell?_of_block (w := w7) (((S10.out.2 g7 (by simp)).trans (S9.out.2 g7 (by simp))).trans (S8.out.2 g7 (by simp)))).trans C7.out
  have k8 : w10.cell? ⟨g8, 1, none⟩ = some (.string { data := #[98] }) := (World.cell?_of_block (w := w8) ((S10.out.2 g8 (by simp)).trans (S9.out.2 g8 (by simp)))).trans C8.out
  go_wp2_with fail
  refine (H10.out.drop 7 (by decide)).mono ?_
  rintro e w11 ⟨rfl, h, hs⟩
  have H11 : Hid (BufAt w.heap.size w w11 (w.heap.size + 1) 2 1 [] 2 [g8, g7]) := h
  rw [show ((([(6, sD)] : Things).length : Int) - ((dropL [(6, sD)] 7).length : Int)) = 1 from by decide]
  clear h hs k7 k8
  go_wp2_with fail
  refine H11.out.sizeC.mono ?_
  rintro e w' ⟨rfl, rfl⟩
  go_wp2_with fail
  refine (H11.out.take 5 (by decide) (by decide) (by decide)).mono ?_
  rintro e w12 ⟨v12, rfl, hrow, h, hs⟩
  have hrow : w12.ownsRow w11.heap.size 9 1 v12 0 [] := hrow
  obtain ⟨a12, cap12, rfl⟩ := row_form hrow
  have HB := Lib.hid h.below
  clear hrow h hs
  go_wp2_with fail
  go_ret
  exact ⟨rfl, HB.out⟩
end Go.Proofs.Ytgmgofcclddkiaa
