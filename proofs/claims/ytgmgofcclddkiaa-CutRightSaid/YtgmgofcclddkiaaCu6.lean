/- The cut's law's awake answers true, whatever the memory. -/
import Derived.Test.YtgmgofcclddkiaaCu5
namespace Go.Proofs.Ytgmgofcclddkiaa
open Go.RowKit Go.Maps Go.WideShapes

/-- claims' cells, one behind the other -/
def flatC (cs : List Clm) : List Value := cs.flatMap rowC
theorem flatC_append (xs ys : List Clm) : flatC (xs ++ ys) = flatC xs ++ flatC ys := List.flatMap_append
theorem flatC_len : ∀ xs : List Clm, (flatC xs).length = xs.length * 3
  | [] => rfl
  | x :: xs => by
    show (rowC x ++ flatC xs).length = _
    rw [List.length_append, flatC_len xs]; simp [rowC]; omega
theorem flatC_get (xs : List Clm) (i : Nat) (hi : i < xs.length) (f : Nat) (hf : f < 3) : (flatC xs)[i * 3 + f]? = (rowC xs[i])[f]? := by
  induction xs generalizing i with
  | nil => simp at hi
  | cons x xs ih =>
    show (rowC x ++ flatC xs)[i * 3 + f]? = _
    cases i with
    | zero => rw [List.getElem?_append_left (by simp [rowC]; omega)]; simp
    | succ i =>
      rw [List.getElem?_append_right (by simp [rowC]; omega)]
      have := ih i (by simpa using hi)
      rw [show (i + 1) * 3 + f - (rowC x).length = i * 3 + f by simp [rowC]; omega]
      simpa using this

/-- claims that the call owns, as claims that lie there -/
theorem ClmsAt.of_row {w : World} {base : Nat} {v : Value} {cs : List Clm} (h : w.ownsRow base 62 3 v cs.length (flatC cs)) (hm : cs.length ≤ maxLen) : ClmsAt w v cs := by
  refine ⟨by simpa using hm, ?_⟩
  rcases h.2 with ⟨rfl, h0⟩ | ⟨g, cap, cur, rfl, _, hg, _⟩
  · exact ⟨none, 0, by simp [h0], fun h => absurd h (by simp [h0])⟩
  · refine ⟨_, cap, by simp, fun _ => ⟨g, 0, rfl, fun j hj => ?_⟩⟩
    simp only [List.length_map] at hj
    simp only [List.getElem_map]
    refine ⟨rfl, fun f hf => ⟨(Array.getElem?_eq_some_iff.1 hg).1, ?_⟩⟩
    rw [Nat.zero_add, h.cellAt _ (by omega), flatC_get cs j hj f hf]

def awC : List Clm := [(1, 0, 10), (2, 5, 15), (3, 8, 20)]
theorem awC_last : lastOf awC = awC := lastOf_distinct (by decide)
theorem awC_agree : AgreeIs awC 8 10 3 := by
  have hv : ∀ p, votes awC p = (if hasB p (1, 0, 10) then 1 else 0) + ((if hasB p (2, 5, 15) then 1 else 0) + ((if hasB p (3, 8, 20) then 1 else 0) + 0)) := fun p => by
    unfold awC; rw [votes_cons, votes_cons, votes_cons]; rfl
  refine ⟨fun p => by have := votes_le awC p; simpa [awC] using this, by omega, fun _ => ⟨by omega, fun p hp => ?_, fun p h1 h2 => ?_, ?_⟩⟩
  · rw [hv, if_neg (c := hasB p (3, 8, 20) = true) (by rw [hasB_iff]; simp; omega)]
    split <;> split <;> omega
  · rw [hv, if_pos (by rw [hasB_iff]; simp; omega), if_pos (by rw [hasB_iff]; simp; omega), if_pos (by rw [hasB_iff]; simp; omega)]; omega
  · rw [hv, if_neg (by rw [hasB_iff]; simp)]
    split <;> split <;> omega
theorem awC_good : Good awC 8 10 3 := ⟨by decide, by decide, by rw [awC_last]; exact awC_agree, by rw [awC_last]; decide⟩
theorem awC_res {e : Ending} (h : AgreeRes awC e) : e = retA 8 10 3 0 := by
  rcases h with ⟨h, _⟩ | ⟨_, h, _⟩ | ⟨_, _, l, h', v, hI, ⟨h2, rfl⟩ | ⟨h2, rfl⟩⟩
  · exact absurd h (by decide)
  · exact absurd h (by decide)
  · rw [awC_last] at hI h2
    obtain ⟨rfl, _⟩ := awC_agree.unique hI
    exact absurd h2 (by decide)
  · rw [awC_last] at hI h2
    obtain ⟨rfl, h3⟩ := awC_agree.unique hI
    obtain ⟨rfl, rfl⟩ := h3 (by omega)
    rfl
theorem aw_none {e : Ending} (h : AgreeRes [] e) : e = retA 0 0 0 10 := by
  rcases h with ⟨h, _⟩ | ⟨_, h, _⟩ | ⟨_, _, l, h', v, hI, ⟨h2, rfl⟩ | ⟨h2, rfl⟩⟩
  · exact absurd h (by decide)
  · exact absurd h (by decide)
  · rfl
  · exfalso
    have h0 : 0 < v := by simp [lastOf] at h2; omega
    have := hI.at_low h0
    have h9 : votes (lastOf []) l = 0 := rfl
    omega
theorem aw_bad {e : Ending} (h : AgreeRes [(0, 1, 0)] e) : e = retA 0 0 0 1 := by
  rcases h with ⟨_, rfl⟩ | ⟨h, _⟩ | ⟨h, _⟩
  · rfl
  · exact absurd h (by decide)
  · exact absurd h (by decide)
theorem aw_true {ids : List Int} (h : TrueRes awC ids) : ids = [1, 2, 3] := by
  have hp := h.2.2 _ _ _ awC_good
  rw [awC_last] at hp
  have e : ((awC.filter (inC 8 10)).map (·.1)) = [1, 2, 3] := by decide
  rw [e] at hp
  exact List.Perm.eq_of_pairwise (le := fun a b : Int => a < b) (fun a b _ _ h1 h2 => by omega) h.1 (by decide) hp
theorem row_lit (w : World) (cur : Array Value) (e : TypeId) (size n : Nat) (hs : cur.size = n * size) (hm : n ≤ maxLen) : (w.alloc (.cells cur e)).ownsRow w.heap.size e size (.slice (some ⟨w.heap.size, 0, none⟩) n n) n cur.toList :=
  ⟨by simpa using hs, .inr ⟨w.heap.size, n, cur, rfl, Nat.le_refl _, heap_alloc_new w _, Nat.le_refl _, hm, hs, by rw [← hs]; exact List.take_of_length_le (by simp)⟩⟩
theorem okC_small {c : Clm} (h : (-100 ≤ c.1 ∧ c.1 ≤ 100) ∧ (-100 ≤ c.2.1 ∧ c.2.1 ≤ 100) ∧ (-100 ≤ c.2.2 ∧ c.2.2 ≤ 100)) : okC c := by
  unfold okC; omega

set_option maxRecDepth 100000 in
set_option maxHeartbeats 4000000 in
theorem awake16 (w : World) : Calls Try.prog 30 #[] w fun e w' => e = .returned (.bool true) ∧ Below w.heap.size w w' := by
  go_enter Try.func30, Try.ntmps30
  go_wp2_with fail
  have hr1 : (w.alloc (.cells #[.int .i64 1, .int .i64 0, .int .i64 10, .int .i64 2, .int .i64 5, .int .i64 15, .int .i64 3, .int .i64 8, .int .i64 20] 62)).ownsRow w.heap.size 62 3 (.slice (some ⟨w.heap.size, 0, none⟩) 3 3) 3 (flatC awC) :=
    row_lit w _ 62 3 3 rfl (by decide)
  have hc1 := ClmsAt.of_row (cs := awC) hr1 (by decide)
  have hb1 := (Below.refl w.heap.size w).alloc (Nat.le_refl _) (.cells #[.int .i64 1, .int .i64 0, .int .i64 10, .int .i64 2, .int .i64 5, .int .i64 15, .int .i64 3, .int .i64 8, .int .i64 20] 62)
  have hz1 : (w.alloc (.cells #[.int .i64 1, .int .i64 0, .int .i64 10, .int .i64 2, .int .i64 5, .int .i64 15, .int .i64 3, .int .i64 8, .int .i64 20] 62)).heap.size = w.heap.size + 1 := by simp
  have hd0 : ∀ w', Below (w.heap.size + 1) (w.alloc (.cells #[.int .i64 1, .int .i64 0, .int .i64 10, .int .i64 2, .int .i64 5, .int .i64 15, .int .i64 3, .int .i64 8, .int .i64 20] 62)) w' →
      w'.cell? ⟨w.heap.size, 0, none⟩ = some (.int .i64 1) ∧ w'.cell? ⟨w.heap.size, 1, none⟩ = some (.int .i64 0) ∧ w'.cell? ⟨w.heap.size, 2, none⟩ = some (.int .i64 10) := fun w' hb => by
    refine ⟨?_, ?_, ?_⟩ <;> (rw [hb.cell (p := ⟨w.heap.size, _, none⟩) (by simp), cell_of (MapKept.heap_alloc w _).1]; rfl)
  have HD0 := Lib.hid hd0
  have HC1 := Lib.hid hc1
  have HB1 := Lib.hid hb1
  have HZ1 := Lib.hid hz1
  clear hr1 hc1 hb1 hd0 hz1
  generalize w.alloc (.cells #[.int .i64 1, .int .i64 0, .int .i64 10, .int .i64 2, .int .i64 5, .int .i64 15, .int .i64 3, .int .i64 8, .int .i64 20] 62) = w1 at HC1 HB1 HD0 HZ1 ⊢
  refine (agree_any w1 _ awC HC1.out (fun c hc => okC_small (by revert c; decide))).mono ?_
  rintro e w2 ⟨hres, hb⟩
  rw [awC_res hres]
  have HB2 := Lib.hid (HB1.out.trans (hb.mono HB1.out.size))
  have HK2 := Lib.hid hb
  unfold retA
  clear hres hb
  go_wp2_with fail
  refine (agree_any w2 _ [] ⟨by decide, none, 0, rfl, fun h => absurd h (by decide)⟩ (by simp)).mono ?_
  rintro e w3 ⟨hres, hb⟩
  rw [aw_none hres]
  have HB3 := Lib.hid (HB2.out.trans (hb.mono HB2.out.size))
  have HK3 := Lib.hid (HK2.out.trans (hb.mono HK2.out.size))
  unfold retA
  clear hres hb HK2
  go_wp2_with fail
  have hr4 : (w3.alloc (.cells #[.int .i64 0, .int .i64 1, .int .i64 0] 62)).ownsRow w3.heap.size 62 3 (.slice (some ⟨w3.heap.size, 0, none⟩) 1 1) 1 (flatC [(0, 1, 0)]) := row_lit w3 _ 62 3 1 rfl (by decide)
  have HC4 := Lib.hid (ClmsAt.of_row (cs := [(0, 1, 0)]) hr4 (by decide))
  have HB4 := Lib.hid (HB3.out.alloc HB3.out.size (.cells #[.int .i64 0, .int .i64 1, .int .i64 0] 62))
  have HK4 := Lib.hid (HK3.out.alloc HK3.out.size (.cells #[.int .i64 0, .int .i64 1, .int .i64 0] 62))
  clear hr4 HB3 HK3
  refine (agree_any _ _ [(0, 1, 0)] HC4.out (fun c hc => okC_small (by revert c; decide))).mono ?_
  rintro e w5 ⟨hres, hb⟩
  rw [aw_bad hres]
  have HB5 := Lib.hid (HB4.out.trans (hb.mono HB4.out.size))
  have HK5 := Lib.hid (HK4.out.trans (hb.mono HK4.out.size))
  unfold retA
  clear hres hb HB4 HK4 HC4
  go_wp2_with fail
  refine (true_any w5 _ awC (HC1.out.keep HK5.out) (fun c hc => okC_small (by revert c; decide))).mono ?_
  rintro e w6 ⟨v6, ids, rfl, hrow, htr, hb⟩
  have hids := aw_true htr
  subst hids
  obtain ⟨g, gc, rfl, _, _, hcell⟩ := row_cells hrow (by decide)
  have d2 : w6.cell? ⟨g, 2, none⟩ = some (.int .i64 3) := hcell 2 (by decide)
  have HB6 := Lib.hid (HB5.out.trans (hb.mono HB5.out.size))
  have HK6 := Lib.hid (HK5.out.trans (hb.mono HK5.out.size))
  obtain ⟨a0, a1, a2⟩ := HD0.out w6 (by rw [← HZ1.out]; exact HK6.out)
  have hm1 := Lib.hid (fun W => may_any (1, 0, 10) W)
  have hm2 := Lib.hid (fun W => may_any (-1, 0, 0) W)
  rw [show mayB (1, 0, 10) = true by decide] at hm1
  rw [show mayB (-1, 0, 0) = false by decide] at hm2
  clear hrow htr hb hcell HB5 HK5 HC1 HD0
  unfold aggC at hm1 hm2
  go_wp2_with fail
  refine (middle_a _).mono ?_
  rintro e w' ⟨rfl, rfl⟩
  go_wp2_with fail
  refine (middle_b _).mono ?_
  rintro e w' ⟨rfl, rfl⟩
  go_wp2_with fail
  refine (hm1.out _).mono ?_
  rintro e w7 ⟨rfl, hw7⟩
  have HB7 : Hid (Below w.heap.size w w7) := by show Below _ _ _; rw [hw7]; exact HB6.out.alloc HB6.out.size _
  clear hw7
  go_wp2_with fail
  refine (hm2.out _).mono ?_
  rintro e w8 ⟨rfl, hw8⟩
  have HB8 : Hid (Below w.heap.size w w8) := by show Below _ _ _; rw [hw8]; exact HB7.out.alloc HB7.out.size _
  clear hw8
  go_wp2_with fail
  go_ret
  exact ⟨rfl, HB8.out⟩
end Go.Proofs.Ytgmgofcclddkiaa
