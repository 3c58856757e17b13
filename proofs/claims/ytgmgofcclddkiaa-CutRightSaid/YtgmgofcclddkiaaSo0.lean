/- The order of edges in slices.SortFunc at this program: what the method value (order).of answers in every world, and the worlds through which the sort passes. -/
import Derived.Shelf.SlSortCmp.KitK
import Derived.Sort.WalkB2
import Derived.Sort.WalkB12
import Derived.Deep.LoopGhost
import Derived.Lib.Hide
import Derived.WalkKit
import Derived.Test.YtgmgofcclddkiaaProg
namespace Go.Proofs.Ytgmgofcclddkiaa
open Go.RowKit Go.Sort Go.Proofs

/-- an edge: where, and how many more -/
abbrev Edge := Int × Int
/-- an edge's two cells -/
def encE (x : Edge) : List Value := [.int .i64 x.1, .int .i64 x.2]
/-- the method value order{}.of -/
abbrev ofV : Value := .func (.func 48) #[.agg #[]] #[]
def cfE (x y : Edge) : Int := Lib.compareInt x.1 y.1
/-- the order of edges -/
def ltE : Edge → Edge → Bool := ltOf cfE

theorem ltE_eq (x y : Edge) : ltE x y = decide (x.1 < y.1) := by
  unfold ltE ltOf cfE Lib.compareInt
  by_cases h1 : x.1 < y.1
  · simp [h1]
  · by_cases h2 : y.1 < x.1 <;> simp [h1, h2]
theorem swoE : SWO ltE where
  irrefl x := by rw [ltE_eq]; simp
  trans x y z h1 h2 := by rw [ltE_eq] at *; simp at *; omega
  ntrans x y z h1 h2 := by rw [ltE_eq] at *; simp at *; omega

theorem isnan_any (a : Int) (W : World) : Calls Try.prog 74 #[.int .i64 a] W fun e w' => e = .returned (.bool false) ∧ W = w' := by
  go_enter Try.func74, Try.ntmps74
  go_wp2
  go_ret
  exact ⟨rfl, rfl⟩

theorem compare_any (a b : Int) (W : World) : Calls Try.prog 54 #[.int .i64 a, .int .i64 b] W fun e w' => e = .returned (.int .i64 (Lib.compareInt a b)) ∧ W = w' := by
  unfold Lib.compareInt
  by_cases h1 : a < b
  · rw [if_pos h1]
    go_enter Try.func54, Try.ntmps54
    go_wp2_with (go_at_call 74; refine (isnan_any _ _).mono ?_; rintro e w' ⟨rfl, rfl⟩)
    go_ret
    exact ⟨rfl, rfl⟩
  · rw [if_neg h1]
    by_cases h2 : a > b
    · rw [if_pos h2]
      go_enter Try.func54, Try.ntmps54
      go_wp2_with (go_at_call 74; refine (isnan_any _ _).mono ?_; rintro e w' ⟨rfl, rfl⟩)
      go_ret
      exact ⟨rfl, rfl⟩
    · rw [if_neg h2]
      go_enter Try.func54, Try.ntmps54
      go_wp2_with (go_at_call 74; refine (isnan_any _ _).mono ?_; rintro e w' ⟨rfl, rfl⟩)
      go_ret
      exact ⟨rfl, rfl⟩

/-- order{}.of in whatever world: it boxes what it takes -/
theorem of_any (x y : Edge) (W : World) : Calls Try.prog 48 #[.agg #[], .agg (encE x).toArray, .agg (encE y).toArray] W fun e w' => e = .returned (.int .i64 (cfE x y)) ∧ ∃ q os', w' = grow (W.drewN q) os' := by
  have hcon := fun W' => compare_any x.1 y.1 W'
  unfold cfE encE
  generalize Lib.compareInt x.1 y.1 = r at hcon ⊢
  go_enter Try.func48, Try.ntmps48
  go_wp2_with (go_at_call 54; refine (hcon _).mono ?_; rintro e w' ⟨rfl, rfl⟩)
  go_ret
  exact ⟨rfl, 0, _, by rw [alloc_eq_grow, alloc_eq_grow, alloc_eq_grow, grow_grow, grow_grow]; rfl⟩
end Go.Proofs.Ytgmgofcclddkiaa
