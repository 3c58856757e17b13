/- The reference's buffer: what it reads as; New, Has. -/
import Derived.Test.YtgmgofcclddkiaaOnA
namespace Go.Proofs.Ytgmgofcclddkiaa
open Go.RowKit Go.Maps Go.WideShapes

def flat (L : Things) : List Value := L.flatMap (fun p => [.int .i64 p.1, .string p.2])
theorem flat_len (L : Things) : (flat L).length = L.length * 2 := by
  induction L with
  | nil => rfl
  | cons q r ih => simp only [flat, List.flatMap_cons, List.length_append, List.length_cons, List.length_nil] at ih ⊢; omega
theorem flat_snoc (L : Things) (i : Int) (t : ByteArray) : flat (L ++ [(i, t)]) = flat L ++ [.int .i64 i, .string t] := by simp [flat]
theorem flat_at : ∀ (L : Things) (k : Nat) (i : Int) (t : ByteArray), L[k]? = some (i, t) → (flat L)[k * 2]? = some (.int .i64 i) ∧ (flat L)[k * 2 + 1]? = some (.string t)
  | [], k, i, t, h => by simp at h
  | q :: r, 0, i, t, h => by simp at h; subst h; exact ⟨rfl, rfl⟩
  | q :: r, k + 1, i, t, h => by
    have := flat_at r k i t (by simpa using h)
    have e : flat (q :: r) = .int .i64 q.1 :: .string q.2 :: flat r := rfl
    rw [e]
    have e1 : (k + 1) * 2 = k * 2 + 1 + 1 := by omega
    rw [e1]
    simpa using this

/-- the reference's buffer q is of each, room, dr and of the things L, in the slice v -/
def Ref (w : World) (q each room : Nat) (L : Things) (dr : Int) (v : Value) : Prop :=
  w.heap[q]? = some (.cells #[.int .i64 each, .int .i64 room, .int .i64 dr, v] 44 (0, 0)) ∧ w.ownsRow 0 77 2 v L.length (flat L)

section
variable {w w' : World} {q each room : Nat} {L : Things} {dr : Int} {v : Value}
theorem Ref.cells (h : Ref w q each room L dr v) : ∃ a cap, v = .slice a L.length cap ∧ (0 < L.length → ∃ g, a = some ⟨g, 0, none⟩ ∧ ∀ k i t, L[k]? = some (i, t) → w.cell? ⟨g, k * 2, none⟩ = some (.int .i64 i) ∧ w.cell? ⟨g, k * 2 + 1, none⟩ = some (.string t)) := by
  obtain ⟨_, h⟩ := h
  obtain ⟨a, cap, rfl⟩ := row_form h
  refine ⟨a, cap, rfl, fun h0 => ?_⟩
  rcases h.2 with ⟨hv, hn⟩ | ⟨g, cap', cur, hv, _⟩
  · omega
  · simp only [Value.slice.injEq] at hv
    obtain ⟨rfl, _, rfl⟩ := hv
    refine ⟨g, rfl, fun k i t hk => ?_⟩
    obtain ⟨f1, f2⟩ := flat_at L k i t hk
    have c1 := h.cells (g := g) rfl _ _ f1
    have c2 := h.cells (g := g) rfl _ _ f2
    rw [add_none, Nat.zero_add] at c1 c2
    exact ⟨c1, c2⟩
theorem Ref.keep (h : Ref w q each room L dr v) (h1 : w'.heap[q]? = w.heap[q]?) (h2 : ∀ k ∈ blockOf v, w'.heap[k]? = w.heap[k]?) : Ref w' q each room L dr v := ⟨h1.trans h.1, row_keep h.2 h2⟩
theorem Ref.same (h : Ref w q each room L dr v) {N : List Nat} (hs : Same N w w') (hq : q ∈ N) (hv : ∀ k ∈ blockOf v, k ∈ N) : Ref w' q each room L dr v := h.keep (hs.2 q hq) (fun k hk => hs.2 k (hv k hk))
end

theorem none_step {L : Things} {k : Nat} {x y : Int × ByteArray} (h : ∀ j, j < k → L[j]? ≠ some x) (hk : L[k]? = some y) (hn : y ≠ x) : ∀ j, j < k + 1 → L[j]? ≠ some x := fun j hj => by
  by_cases hjk : j = k
  · subst hjk; rw [hk]; exact fun e => hn (by injection e)
  · exact h j (by omega)
theorem none_all {L : Things} {i : Int} {t : ByteArray} (h : ∀ j, j < L.length → L[j]? ≠ some (i, t)) : hasT L i t = false := by
  rw [Bool.eq_false_iff]
  intro hh
  obtain ⟨j, hj⟩ := List.mem_iff_getElem?.1 ((hasT_iff L i t).1 hh)
  exact h j (List.getElem?_eq_some_iff.1 hj).1 hj

set_option maxRecDepth 100000 in
set_option maxHeartbeats 1000000 in
theorem rhas_any {w : World} {q each room : Nat} {L : Things} {dr : Int} {v : Value} (h : Ref w q each room L dr v) (hL : L.length < 4611686018427387904) (i : Int) (t : ByteArray) :
    Calls Try.prog 29 #[.pointer (some ⟨q, 0, none⟩), .int .i64 i, .string t] w fun e w' => e = .returned (.bool (hasT L i t)) ∧ w' = w := by
  obtain ⟨a, cap, rfl, hc⟩ := h.cells
  have HC := Lib.hid hc
  have c3 := cell_of h.1 3
  clear h hc
  go_enter Try.func29, Try.ntmps29
  go_wp2
  go_loopw [7] (fun ix wr => ∃ k : Nat, k ≤ L.length ∧ ix = .int .i64 k ∧ wr = w ∧ ∀ j, j < k → L[j]? ≠ some (i, t)) (fun ix _ => L.length - (intOf ix).toNat)
  case atStart => exact ⟨0, Nat.zero_le _, rfl, rfl, fun j hj => by omega⟩
  case round =>
    obtain ⟨k, hk, rfl, rfl, hno⟩ := hrel
    have HNO := Lib.hid hno
    clear hno
    by_cases hlt : k < L.length
    · obtain ⟨g, rfl, hcc⟩ := HC.out (by omega)
      obtain ⟨i', t', hit⟩ : ∃ i' t', L[k]? = some (i', t') := ⟨L[k].1, L[k].2, by simp [hlt]⟩
      obtain ⟨d1, d2⟩ := hcc k i' t' hit
      have HIT := Lib.hid hit
      clear hcc hit
      by_cases h1 : i' = i
      · by_cases h2 : t' = t
        · subst h1 h2
          go_wp2
          go_ret
          refine ⟨?_, rfl⟩
          rw [(hasT_iff L i' t').2 (List.mem_of_getElem? HIT.out)]; rfl
        · have h2' : (t'.toList == t.toList) = false := by rw [beq_eq_false_iff_ne, ByteArray.toList_eq, ByteArray.toList_eq]; exact fun e => h2 (toList_inj e)
          subst h1
          have hne : (i', t') ≠ (i', t) := fun e => h2 (by injection e)
          clear h2
          go_wp2
          go_roundw
          case rel => exact ⟨k + 1, by omega, by go_num, trivial, none_step HNO.out HIT.out hne⟩
          case measure => simp [intOf]; omega
      · have h1' : (i' == i) = false := by simpa using h1
        have hne : (i', t') ≠ (i, t) := fun e => h1 (by injection e)
        clear h1
        go_wp2
        go_roundw
        case rel => exact ⟨k + 1, by omega, by go_num, trivial, none_step HNO.out HIT.out hne⟩
        case measure => simp [intOf]; omega
    · have hke : k = L.length := by omega
      subst hke
      go_wp2
      go_ret
      refine ⟨?_, rfl⟩
      rw [none_all HNO.out]; rfl

set_option maxRecDepth 100000 in
set_option maxHeartbeats 1000000 in
theorem rnew_walk {w : World} (a b : Int) (h1 : 1 ≤ a) (h2 : a ≤ 64) (h3 : 1 ≤ b) (h4 : b ≤ 64) :
    Calls Try.prog 15 #[.int .i64 a, .int .i64 b] w fun e w' => e = .returned (.tuple #[.pointer (some ⟨w.heap.size, 0, none⟩), .int .i64 0]) ∧ w' = w.alloc (.cells #[.int .i64 a, .int .i64 b, .int .i64 0, .slice none 0 0] 44) := by
  go_enter Try.func15, Try.ntmps15
  go_wp2
  go_ret2
  exact ⟨rfl, rfl⟩
set_option maxRecDepth 100000 in
set_option maxHeartbeats 1000000 in
theorem rnew_bad {w : World} (a b : Int) (h : a < 1 ∨ 64 < a ∨ b < 1 ∨ 64 < b) :
    Calls Try.prog 15 #[.int .i64 a, .int .i64 b] w fun e w' => e = .returned (.tuple #[.pointer none, .int .i64 1]) ∧ w' = w := by
  by_cases d1 : a < 1
  · clear h
    go_enter Try.func15, Try.ntmps15
    go_wp2
    go_ret2
    exact ⟨rfl, rfl⟩
  · by_cases d2 : 64 < a
    · clear h
      go_enter Try.func15, Try.ntmps15
      go_wp2
      go_ret2
      exact ⟨rfl, rfl⟩
    · by_cases d3 : b < 1
      · clear h
        go_enter Try.func15, Try.ntmps15
        go_wp2
        go_ret2
        exact ⟨rfl, rfl⟩
      · have d4 : 64 < b := by omega
        clear h
        go_enter Try.func15, Try.ntmps15
        go_wp2
        go_ret2
        exact ⟨rfl, rfl⟩
end Go.Proofs.Ytgmgofcclddkiaa
