/- Parts of the sort of edges: order2, median, medianAdjacent, choosePivot. -/
import Derived.Test.YtgmgofcclddkiaaSo2
import Derived.Shelf.GgSortFunc.LotD
import Derived.Shelf.SlSortFuncK.PivotK
import Derived.BigRegion
namespace Go.Proofs.Ytgmgofcclddkiaa
open Go.RowKit Go.Sort Go.Proofs Go.Shelf
/-- a world of the sort, and a counter made since it began holds s -/
def SC (w0 : World) (blk off n : Nat) (d : Array Edge) (c s : Nat) (W : World) : Prop :=
  SW w0 blk off n d W ∧ W.cell? ⟨c, 0, none⟩ = some (.int .i64 s) ∧ W.frozen? ⟨c, 0, none⟩ = false ∧ w0.heap.size ≤ c ∧ c < W.heap.size
section
variable {w0 W : World} {blk off n : Nat} {d : Array Edge} {c s : Nat}
theorem SC.grown (h : SC w0 blk off n d c s W) (m : Nat) (os : Array Obj) : SC w0 blk off n d c s (grow (W.drewN m) os) :=
  ⟨h.1.grown m os, by rw [cell?_grow _ _ _ (by exact h.2.2.2.2)]; exact h.2.1, by rw [frozen?_grow _ _ _ (by exact h.2.2.2.2)]; exact h.2.2.1, h.2.2.2.1, by rw [size_grow]; exact Nat.lt_of_lt_of_le h.2.2.2.2 (Nat.le_add_right _ _)⟩
theorem SC.bump (h : SC w0 blk off n d c s W) (t : Nat) : SC w0 blk off n d c t (W.setCell ⟨c, 0, none⟩ (.int .i64 t)) :=
  ⟨{ h.1 with now := h.1.now.setCell_new c 0 _ h.2.2.2.1 }, World.cell?_setCell_same _ _ _ h.2.1, by rw [World.frozen?_setCell]; exact h.2.2.1, h.2.2.2.1, by simpa using h.2.2.2.2⟩
theorem SC.start (h : SW w0 blk off n d W) (T : TypeId) : SC w0 blk off n d W.heap.size 0 (W.alloc (.cells #[.int .i64 0] T)) :=
  ⟨{ h with now := h.now.alloc _ }, by simp, by simp, h.now.le, by simp⟩
end
set_option maxRecDepth 1000000 in
set_option maxHeartbeats 8000000 in
theorem order2_t (w0 W : World) (blk off n cap a b c s : Nat) (d : Array Edge) (C : SC w0 blk off n d c s W) (ha : a < n) (hb : b < n) (hss : s < 4611686018427387904) :
    Calls Try.prog 85 #[.slice (some ⟨blk, off, none⟩) n cap, .int .i64 a, .int .i64 b, .pointer (some ⟨c, 0, none⟩), ofV] W fun e w' =>
      e = .returned (.tuple #[.int .i64 (order2 ltE d a b s).1, .int .i64 (order2 ltE d a b s).2.1]) ∧ SC w0 blk off n d c (order2 ltE d a b s).2.2 w' := by
  have mixed : Try.prog.follows .mixedOrders = true := by kernel_rfl
  have hn := C.1.small
  have S1 := Lib.hid C.1
  have C1 := Lib.hid C
  clear C
  go_enter Try.func85, Try.ntmps85
  cases hL : ltE d[b]! d[a]! with
  | true =>
    have e2 : order2 ltE d a b s = (b, a, s + 1) := by simp [order2, hL]
    rw [e2]
    clear e2
    have q17ia : ((b : Int)).toNat = b := by omega
    have q17ib : 0 ≤ ((b : Int)) := by omega
    have q17ic : ((b : Int)) < (n : Int) := by omega
    have q17id : IntKind.i64.wrap ((b : Int)) = (b : Int) := by rw [IntKind.wrap_i64]; omega
    have q17ka : ((a : Int)).toNat = a := by omega
    have q17kb : 0 ≤ ((a : Int)) := by omega
    have q17kc : ((a : Int)) < (n : Int) := by omega
    have q17kd : IntKind.i64.wrap ((a : Int)) = (a : Int) := by rw [IntKind.wrap_i64]; omega
    obtain ⟨q17x, q17y, q171, q172, q173, q174, q175, q176⟩ := S1.out.ask (b) (a) (by omega) (by omega) hL
    have q17H := Lib.hid q175
    clear q175
    go_wp2_with fail
    go_quiet_grown ((go_at_call 48; exact q17H.out _ _))
    have S2 := Lib.hid (S1.out.grown nq osq)
    have C2 := Lib.hid (C1.out.grown nq osq)
    clear q171 q172 q173 q174 q17H S1 q17ia q17ib q17ic q17id q17ka q17kb q17kc q17kd
    generalize grow (W.drewN nq) osq = w2 at S2 C2 ⊢
    clear nq osq
    obtain ⟨_, cc, cfz, _, _⟩ := C2.out
    go_wp2
    go_ret2
    exact ⟨rfl, by have := C2.out.bump (s + 1); simpa using this⟩
  | false =>
    have e2 : order2 ltE d a b s = (a, b, s) := by simp [order2, hL]
    rw [e2]
    clear e2
    have q18ia : ((b : Int)).toNat = b := by omega
    have q18ib : 0 ≤ ((b : Int)) := by omega
    have q18ic : ((b : Int)) < (n : Int) := by omega
    have q18id : IntKind.i64.wrap ((b : Int)) = (b : Int) := by rw [IntKind.wrap_i64]; omega
    have q18ka : ((a : Int)).toNat = a := by omega
    have q18kb : 0 ≤ ((a : Int)) := by omega
    have q18kc : ((a : Int)) < (n : Int) := by omega
    have q18kd : IntKind.i64.wrap ((a : Int)) = (a : Int) := by rw [IntKind.wrap_i64]; omega
    obtain ⟨q18x, q18y, q181, q182, q183, q184, q185, q186⟩ := S1.out.ask (b) (a) (by omega) (by omega) hL
    have q18H := Lib.hid q185
    clear q185
    go_wp2_with fail
    go_quiet_grown ((go_at_call 48; exact q18H.out _ _))
    have S2 := Lib.hid (S1.out.grown nq osq)
    have C2 := Lib.hid (C1.out.grown nq osq)
    clear q181 q182 q183 q184 q18H S1 q18ia q18ib q18ic q18id q18ka q18kb q18kc q18kd
    generalize grow (W.drewN nq) osq = w2 at S2 C2 ⊢
    clear nq osq
    obtain ⟨_, cc, cfz, _, _⟩ := C2.out
    go_wp2
    go_ret2
    exact ⟨rfl, C2.out⟩

set_option maxRecDepth 1000000 in
set_option maxHeartbeats 8000000 in
theorem median_t (w0 W : World) (blk off n cap a b c' c s : Nat) (d : Array Edge) (C : SC w0 blk off n d c s W) (ha : a < n) (hb : b < n) (hc : c' < n) (hss : s + 3 < 4611686018427387904) :
    Calls Try.prog 83 #[.slice (some ⟨blk, off, none⟩) n cap, .int .i64 a, .int .i64 b, .int .i64 c', .pointer (some ⟨c, 0, none⟩), ofV] W fun e w' =>
      e = .returned (.int .i64 (median ltE d a b c' s).1) ∧ SC w0 blk off n d c (median ltE d a b c' s).2 w' := by
  have l1 := order2_lt' ltE d s ha hb
  have s1 := order2_swaps' ltE d a b s
  have l2 := order2_lt' ltE d (order2 ltE d a b s).2.2 l1.2 hc
  have s2 := order2_swaps' ltE d (order2 ltE d a b s).2.1 c' (order2 ltE d a b s).2.2
  have C0 := Lib.hid C
  clear C
  go_enter Try.func83, Try.ntmps83
  go_wp2_with fail
  refine (order2_t w0 _ blk off n cap a b c s d C0.out ha hb (by omega)).mono ?_
  rintro e w1 ⟨rfl, h⟩
  have C1 := Lib.hid h
  clear h
  go_wp2_with fail
  refine (order2_t w0 _ blk off n cap _ c' c _ d C1.out l1.2 hc (by omega)).mono ?_
  rintro e w2 ⟨rfl, h⟩
  have C2 := Lib.hid h
  clear h
  go_wp2_with fail
  refine (order2_t w0 _ blk off n cap _ _ c _ d C2.out l1.1 l2.1 (by omega)).mono ?_
  rintro e w3 ⟨rfl, h⟩
  have C3 := Lib.hid h
  clear h
  go_wp2_with fail
  go_ret
  exact ⟨rfl, C3.out⟩

theorem medianAdj_t (w0 W : World) (blk off n cap a c s : Nat) (d : Array Edge) (C : SC w0 blk off n d c s W) (ha1 : 1 ≤ a) (ha2 : a + 1 < n) (hss : s + 3 < 4611686018427387904) :
    Calls Try.prog 82 #[.slice (some ⟨blk, off, none⟩) n cap, .int .i64 a, .pointer (some ⟨c, 0, none⟩), ofV] W fun e w' =>
      e = .returned (.int .i64 (medianAdjacent ltE d a s).1) ∧ SC w0 blk off n d c (medianAdjacent ltE d a s).2 w' := by
  have hn := C.1.small
  have hm := median_t w0 W blk off n cap (a - 1) a (a + 1) c s d C (by omega) (by omega) ha2 hss
  rw [show ((a - 1 : Nat) : Int) = (a : Int) - 1 by omega, show ((a + 1 : Nat) : Int) = (a : Int) + 1 by omega] at hm
  have HM := Lib.hid hm
  clear hm C
  go_enter Try.func82, Try.ntmps82
  go_wp2_with fail
  refine HM.out.mono ?_
  rintro e w1 ⟨rfl, h⟩
  have C1 := Lib.hid h
  clear h
  go_wp2_with fail
  go_ret
  exact ⟨rfl, C1.out⟩

set_option maxRecDepth 1000000 in
set_option maxHeartbeats 8000000 in
theorem pivot_t (w0 W : World) (blk off n cap a b : Nat) (d : Array Edge) (S : SW w0 blk off n d W) (hab : a < b) (hb : b ≤ n) :
    Calls Try.prog 69 #[.slice (some ⟨blk, off, none⟩) n cap, .int .i64 a, .int .i64 b, ofV] W fun e w' =>
      e = .returned (.tuple #[.int .i64 (choosePivot ltE d a b).1, .int .i64 (hintCode (choosePivot ltE d a b).2)]) ∧ SW w0 blk off n d w' := by
  have hn := S.small
  have C0 := Lib.hid (SC.start S 3)
  clear S
  rw [choosePivot_eq]
  obtain ⟨I, hI⟩ : ∃ I : Nat, I = a + (b - a) / 4 * 1 := ⟨_, rfl⟩
  obtain ⟨J, hJ⟩ : ∃ J : Nat, J = a + (b - a) / 4 * 2 := ⟨_, rfl⟩
  obtain ⟨K, hK⟩ : ∃ K : Nat, K = a + (b - a) / 4 * 3 := ⟨_, rfl⟩
  have eI : ((a : Int) + ((b : Int) - (a : Int)) / 4) = (I : Int) := by omega
  have eJ : ((a : Int) + ((b : Int) - (a : Int)) / 4 * 2) = (J : Int) := by omega
  have eK : ((a : Int) + ((b : Int) - (a : Int)) / 4 * 3) = (K : Int) := by omega
  by_cases h8 : b - a ≥ 8
  · have bI : 1 ≤ I ∧ I + 1 < n := by omega
    have bJ : 1 ≤ J ∧ J + 1 < n := by omega
    have bK : 1 ≤ K ∧ K + 1 < n := by omega
    by_cases h50 : b - a ≥ 50
    · obtain ⟨i1, s1, h1⟩ : ∃ i1 s1, medianAdjacent ltE d I 0 = (i1, s1) := ⟨_, _, rfl⟩
      obtain ⟨j1, s2, h2⟩ : ∃ j1 s2, medianAdjacent ltE d J s1 = (j1, s2) := ⟨_, _, rfl⟩
      obtain ⟨k1, s3, h3⟩ : ∃ k1 s3, medianAdjacent ltE d K s2 = (k1, s3) := ⟨_, _, rfl⟩
      obtain ⟨p, s, h4⟩ : ∃ p s, median ltE d i1 j1 k1 s3 = (p, s) := ⟨_, _, rfl⟩
      have hraw : rawPivot ltE d a b = (p, s) := by simp only [rawPivot, if_pos h8, if_pos h50, ← hI, ← hJ, ← hK, h1, h2, h3, h4]
      have m1 := medianAdjacent_mem ltE d I 0; rw [h1] at m1
      have m2 := medianAdjacent_mem ltE d J s1; rw [h2] at m2
      have m3 := medianAdjacent_mem ltE d K s2; rw [h3] at m3
      have n1 := medianAdjacent_count ltE d I 0; rw [h1] at n1
      have n2 := medianAdjacent_count ltE d J s1; rw [h2] at n2
      have n3 := medianAdjacent_count ltE d K s2; rw [h3] at n3
      simp only [] at m1 m2 m3 n1 n2 n3
      have q1 : i1 < n := by omega
      have q2 : j1 < n := by omega
      have q3 : k1 < n := by omega
      have q4 : s3 + 3 < 4611686018427387904 := by omega
      have c1 := Lib.hid (fun W' (C' : SC w0 blk off n d W.heap.size 0 W') => medianAdj_t w0 W' blk off n cap I W.heap.size 0 d C' bI.1 bI.2 (by omega))
      have c2 := Lib.hid (fun W' (C' : SC w0 blk off n d W.heap.size s1 W') => medianAdj_t w0 W' blk off n cap J W.heap.size s1 d C' bJ.1 bJ.2 (by omega))
      have c3 := Lib.hid (fun W' (C' : SC w0 blk off n d W.heap.size s2 W') => medianAdj_t w0 W' blk off n cap K W.heap.size s2 d C' bK.1 bK.2 (by omega))
      have c4 := Lib.hid (fun W' (C' : SC w0 blk off n d W.heap.size s3 W') => median_t w0 W' blk off n cap i1 j1 k1 W.heap.size s3 d C' q1 q2 q3 q4)
      rw [h1] at c1; rw [h2] at c2; rw [h3] at c3; rw [h4] at c4
      rw [hraw]
      obtain ⟨Hc, hHc⟩ : ∃ Hc : Int, Hc = hintCode (hintOf s) := ⟨_, rfl⟩
      have HH := Lib.hid (show (s = 0 → Hc = 1) ∧ (s = 12 → Hc = 2) ∧ (s ≠ 0 → s ≠ 12 → Hc = 0) from
        ⟨fun h => by rw [hHc, h]; rfl, fun h => by rw [hHc, h]; rfl, fun h1 h2 => by rw [hHc]; unfold hintOf; rw [if_neg h1, if_neg h2]; rfl⟩)
      show Calls Try.prog 69 _ W fun e w' => e = .returned (.tuple #[.int .i64 (p : Int), .int .i64 (hintCode (hintOf s))]) ∧ SW w0 blk off n d w'
      rw [← hHc]
      clear hHc hraw
      clear h1 h2 h3 h4 hI hJ hK m1 m2 m3 n1 n2 n3 bI bJ bK
      go_enter Try.func69, Try.ntmps69
      go_wp2_with fail
      refine (c1.out _ C0.out).mono ?_
      rintro e w1 ⟨rfl, h⟩
      have C1 := Lib.hid h
      clear h
      go_wp2_with fail
      refine (c2.out _ C1.out).mono ?_
      rintro e w2 ⟨rfl, h⟩
      have C2 := Lib.hid h
      clear h
      go_wp2_with fail
      refine (c3.out _ C2.out).mono ?_
      rintro e w3 ⟨rfl, h⟩
      have C3 := Lib.hid h
      clear h
      go_wp2_with fail
      refine (c4.out _ C3.out).mono ?_
      rintro e w4 ⟨rfl, h, cc, cfz, _, _⟩
      have S4 := Lib.hid h
      clear h
      go_wp2_with fail
      all_goals
        go_ret2
        refine ⟨?_, S4.out⟩
        first
          | (have e0 : (s : Int) = 0 := of_beq_int (by assumption)
             rw [HH.out.1 (by omega)]; rfl)
          | (have e1 : (s : Int) = 12 := of_beq_int (by assumption)
             rw [HH.out.2.1 (by omega)]; rfl)
          | (have e0 : (s : Int) ≠ 0 := of_bne_int (by assumption)
             have e1 : (s : Int) ≠ 12 := of_bne_int (by assumption)
             rw [HH.out.2.2 (by omega) (by omega)]; rfl)
          | (rw [HH.out.1 (by omega)]; rfl)
    · obtain ⟨p, s, h4⟩ : ∃ p s, median ltE d I J K 0 = (p, s) := ⟨_, _, rfl⟩
      have hraw : rawPivot ltE d a b = (p, s) := by simp only [rawPivot, if_pos h8, if_neg h50, ← hI, ← hJ, ← hK, h4]
      have c4 := Lib.hid (fun W' (C' : SC w0 blk off n d W.heap.size 0 W') => median_t w0 W' blk off n cap I J K W.heap.size 0 d C' (by omega) (by omega) (by omega) (by omega))
      rw [h4] at c4
      rw [hraw]
      obtain ⟨Hc, hHc⟩ : ∃ Hc : Int, Hc = hintCode (hintOf s) := ⟨_, rfl⟩
      have HH := Lib.hid (show (s = 0 → Hc = 1) ∧ (s = 12 → Hc = 2) ∧ (s ≠ 0 → s ≠ 12 → Hc = 0) from
        ⟨fun h => by rw [hHc, h]; rfl, fun h => by rw [hHc, h]; rfl, fun h1 h2 => by rw [hHc]; unfold hintOf; rw [if_neg h1, if_neg h2]; rfl⟩)
      show Calls Try.prog 69 _ W fun e w' => e = .returned (.tuple #[.int .i64 (p : Int), .int .i64 (hintCode (hintOf s))]) ∧ SW w0 blk off n d w'
      rw [← hHc]
      clear hHc hraw
      clear h4 hI hJ hK bI bJ bK
      go_enter Try.func69, Try.ntmps69
      go_wp2_with fail
      refine (c4.out _ C0.out).mono ?_
      rintro e w4 ⟨rfl, h, cc, cfz, _, _⟩
      have S4 := Lib.hid h
      clear h
      go_wp2_with fail
      all_goals
        go_ret2
        refine ⟨?_, S4.out⟩
        first
          | (have e0 : (s : Int) = 0 := of_beq_int (by assumption)
             rw [HH.out.1 (by omega)]; rfl)
          | (have e1 : (s : Int) = 12 := of_beq_int (by assumption)
             rw [HH.out.2.1 (by omega)]; rfl)
          | (have e0 : (s : Int) ≠ 0 := of_bne_int (by assumption)
             have e1 : (s : Int) ≠ 12 := of_bne_int (by assumption)
             rw [HH.out.2.2 (by omega) (by omega)]; rfl)
          | (rw [HH.out.1 (by omega)]; rfl)
  · obtain ⟨p, hp⟩ : ∃ p : Nat, p = J := ⟨_, rfl⟩
    obtain ⟨s, hs0⟩ : ∃ s : Nat, s = 0 := ⟨_, rfl⟩
    have hraw : rawPivot ltE d a b = (p, s) := by simp only [rawPivot, if_neg h8, ← hJ, hp, hs0]
    rw [hraw]
    obtain ⟨Hc, hHc⟩ : ∃ Hc : Int, Hc = hintCode (hintOf s) := ⟨_, rfl⟩
    have HH := Lib.hid (show (s = 0 → Hc = 1) ∧ (s = 12 → Hc = 2) ∧ (s ≠ 0 → s ≠ 12 → Hc = 0) from
      ⟨fun h => by rw [hHc, h]; rfl, fun h => by rw [hHc, h]; rfl, fun h1 h2 => by rw [hHc]; unfold hintOf; rw [if_neg h1, if_neg h2]; rfl⟩)
    show Calls Try.prog 69 _ W fun e w' => e = .returned (.tuple #[.int .i64 (p : Int), .int .i64 (hintCode (hintOf s))]) ∧ SW w0 blk off n d w'
    rw [← hHc]
    clear hHc hraw
    subst hp
    clear hI hJ hK
    have S4 := Lib.hid C0.out.1
    clear C0
    go_enter Try.func69, Try.ntmps69
    go_wp2
    all_goals
      go_ret2
      refine ⟨?_, S4.out⟩
      first
        | (have e0 : (s : Int) = 0 := of_beq_int (by assumption)
           rw [HH.out.1 (by omega)]; rfl)
        | (have e1 : (s : Int) = 12 := of_beq_int (by assumption)
           rw [HH.out.2.1 (by omega)]; rfl)
        | (have e0 : (s : Int) ≠ 0 := of_bne_int (by assumption)
           have e1 : (s : Int) ≠ 12 := of_bne_int (by assumption)
           rw [HH.out.2.2 (by omega) (by omega)]; rfl)
        | (rw [HH.out.1 (by omega)]; rfl)

end Go.Proofs.Ytgmgofcclddkiaa
