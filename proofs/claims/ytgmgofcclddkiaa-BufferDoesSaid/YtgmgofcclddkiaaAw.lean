/- The law's awake answers true, whatever the memory; texts answers true for two slices of the same strings; large. -/
import Derived.Test.YtgmgofcclddkiaaNew
namespace Go.Proofs.Ytgmgofcclddkiaa
open Go.RowKit Go.Maps Go.WideShapes

/-- a slice of strings, as a list -/
def StrsAt (w : World) (v : Value) (xs : List ByteArray) : Prop :=
  ∃ a cap, v = .slice a xs.length cap ∧ (0 < xs.length → ∃ b o, a = some ⟨b, o, none⟩ ∧ ∀ j, j < xs.length → w.cell? ⟨b, o + j, none⟩ = (xs[j]?).map Value.string)

theorem StrsAt.of_row {w : World} {base : Nat} {e : TypeId} {v : Value} {xs : List ByteArray} (h : w.ownsRow base e 1 v xs.length (xs.map Value.string)) : StrsAt w v xs := by
  obtain ⟨a, cap, rfl⟩ := row_form h
  refine ⟨a, cap, rfl, fun hn => ?_⟩
  obtain ⟨g, cap', hv, _, _, hc⟩ := row_cells h hn
  simp only [Value.slice.injEq] at hv
  obtain ⟨rfl, _, _⟩ := hv
  exact ⟨g, 0, rfl, fun j hj => by rw [Nat.zero_add, hc j hj]; simp⟩

set_option maxRecDepth 100000 in
set_option maxHeartbeats 1000000 in
theorem texts_yes {w : World} {u v : Value} {xs : List ByteArray} (hu : StrsAt w u xs) (hv : StrsAt w v xs) (hm : xs.length < 9223372036854775807) :
    Calls Try.prog 19 #[u, v] w fun e w' => e = .returned (.bool true) ∧ ∃ q, w' = w.drewN q := by
  obtain ⟨a, ca, rfl, ha⟩ := hu
  obtain ⟨b, cb, rfl, hb⟩ := hv
  have HA := Lib.hid ha
  have HB := Lib.hid hb
  clear ha hb
  have hne : ((xs.length : Int) != (xs.length : Int)) = false := by simp
  go_enter Try.func19, Try.ntmps19
  go_wp2
  go_loopw [13] (fun ix wr => ∃ k : Nat, k ≤ xs.length ∧ ix = .int .i64 k ∧ ∃ q, wr = w.drewN q) (fun ix _ => xs.length - (intOf ix).toNat)
  case atStart => exact ⟨0, Nat.zero_le _, rfl, 0, rfl⟩
  case round =>
    obtain ⟨k, hk, rfl, q, rfl⟩ := hrel
    by_cases hlt : k < xs.length
    · obtain ⟨b1, o1, rfl, h1⟩ := HA.out (by omega)
      obtain ⟨b2, o2, rfl, h2⟩ := HB.out (by omega)
      have c1 := h1 k hlt
      have c2 := h2 k hlt
      obtain ⟨x, hx⟩ : ∃ x, xs[k]? = some x := ⟨xs[k], by simp [hlt]⟩
      rw [hx, Option.map_some] at c1 c2
      have hxx : (x.data.toList != x.data.toList) = false := by simp
      clear h1 h2 hx
      go_wp2
      go_quiet (fail)
      go_wp2
      exact ⟨⟨k + 1, by omega, by go_num, _, rfl⟩, by simp [intOf]; omega⟩
    · have hke : k = xs.length := by omega
      subst hke
      go_wp2
      go_ret
      exact ⟨rfl, q, rfl⟩

set_option maxRecDepth 100000 in
set_option maxHeartbeats 400000 in
theorem large_any {w : World} (kd i : Int) (t : ByteArray) (_ht : t.size ≤ 9223372036854775807) :
    Calls Try.prog 16 #[.agg #[.int .i64 kd, .int .i64 i, .string t]] w fun e w' => e = .returned (.bool (decide (200 < (t.size : Int)))) ∧ w' = w.alloc (.cells #[.int .i64 kd, .int .i64 i, .string t] 32) := by
  go_enter Try.func16, Try.ntmps16
  go_wp2
  go_ret
  exact ⟨rfl, rfl⟩
end Go.Proofs.Ytgmgofcclddkiaa
