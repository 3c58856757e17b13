/- A range over a map told as a partial function, whose keys are ints: the start, the step, a delete on the way. -/
import Derived.Test.YtgmgofcclddkiaaMap
import Derived.Maps.RangeWalk
namespace Go.Proofs.Ytgmgofcclddkiaa
open Go.RowKit Go.Maps Go.WideShapes

/-- a range over map b is under way, iterator r: what lies there (g), which keys are still to come (lt), how many -/
def MapRange (P : Program) (k : TypeId) (w : World) (b r n : Nat) (g : Lit → Option Value) (lt : Int → Bool) (cnt : Nat) : Prop :=
  ∃ D left, w.ranges P k rv b r n D left cnt ∧ Holds D g ∧ ∀ i, left (.int .i64 i) = lt i

section
variable {P : Program} {k : TypeId} {w w' : World} {b r n : Nat} {g : Lit → Option Value} {lt : Int → Bool} {cnt : Nat}
theorem MapRange.map (h : MapRange P k w b r n g lt cnt) : MapIs P k w b n g := by
  obtain ⟨D, left, h1, h2, _⟩ := h; exact ⟨D, h1.owns, h2⟩
theorem MapRange.left_eq (h : MapRange P k w b r n g lt cnt) : w.rangeLeft b r = cnt := by
  obtain ⟨D, left, h1, _⟩ := h; exact h1.left_eq
theorem MapRange.ne (h : MapRange P k w b r n g lt cnt) : r ≠ b := by
  obtain ⟨D, left, h1, _⟩ := h; exact h1.ne
theorem MapRange.lt_size (h : MapRange P k w b r n g lt cnt) : r < w.heap.size := by
  obtain ⟨D, left, h1, _⟩ := h; exact h1.lt
theorem MapRange.block (h : MapRange P k w b r n g lt cnt) (h1 : w'.heap[b]? = w.heap[b]?) (h2 : w'.heap[r]? = w.heap[r]?) : MapRange P k w' b r n g lt cnt := by
  obtain ⟨D, left, ⟨es, clock, since, seen, c0, hb, F, hs, hD, hr, rest⟩, hg, hl⟩ := h
  exact ⟨D, left, ⟨es, clock, since, seen, c0, h1.trans hb, F, hs, hD, h2.trans hr, rest⟩, hg, hl⟩
theorem MapRange.congr (h : MapRange P k w b r n g lt cnt) {g' : Lit → Option Value} {lt' : Int → Bool} (e : ∀ l, g' l = g l) (e' : ∀ i, lt' i = lt i) : MapRange P k w b r n g' lt' cnt := by
  obtain ⟨D, left, h1, h2, h3⟩ := h
  exact ⟨D, left, h1, fun l z => by rw [h2 l z, e l], fun i => by rw [h3 i, e' i]⟩
end

theorem sameKey_i64 (i j : Int) : (Lit.int .i64 j).sameKey (.int .i64 i) = (j == i) := by
  by_cases h : j = i
  · subst h; simp [Lit.sameKey]
  · rw [Go.Maps.sameKey_ne (fun e => h (by injection e))]
    simp [h]

section
variable {P : Program} (w : World) {ops : Array Oper} {rest : List Oper} {o : Oper} {a : Act} {Q : Exit → Act → World → Prop}
theorem wpList_mrange (hg : o.guard = none) (m : Operand) (t : TypeId) (hop : o.op = Op.range t m) (k e : TypeId) (K : Keyed P k) (ht : P.underlying t = some (.map k e)) {b n : Nat} {g : Lit → Option Value}
    (hm : a.eval m = .map (some b)) (hmap : MapIs P k w b n g)
    (hK : ∀ w' cnt, MapRange P k w' b w.heap.size n g (fun i => (g (.int .i64 i)).isSome) cnt → w.grownBy w' none → w'.heap.size = w.heap.size + 1 → wpList P ops Q rest (a.put o.dst (.pointer (some ⟨w.heap.size, 0, none⟩))) w') :
    wpList P ops Q (o :: rest) a w := by
  obtain ⟨D, ho, hh⟩ := hmap
  exact wpList_range_own w hg m t hop k e K ht rv b n D hm ho (fun w' h1 h2 h3 => hK w' _ ⟨D, _, h1, hh, fun i => holds_has hh _⟩ h2 h3)

theorem wpList_mnext (hg : o.guard = none) (it : Operand) (hop : o.op = Op.next it false) (k : TypeId) (K : Keyed P k) (hk : P.underlying k = some (.int .i64)) {b r n : Nat} {g : Lit → Option Value} {lt : Int → Bool} {cnt : Nat}
    (hit : a.eval it = .pointer (some ⟨r, 0, none⟩)) (h : MapRange P k w b r n g lt cnt)
    (hDone : (∀ i, lt i = false) → wpList P ops Q rest (a.put o.dst (.tuple #[.bool false])) w)
    (hMore : ∀ (i : Int) (c : Value) (w' : World) (cnt' : Nat), (Lit.int .i64 i).wf = true → lt i = true → g (.int .i64 i) = some c → MapRange P k w' b r n g (fun j => lt j && !(j == i)) cnt' → cnt' < cnt →
      w.grownBy w' (some r) → w'.heap.size = w.heap.size → (Instr.entry (.pointer (some ⟨r, 0, none⟩))).run P w' = .ok (.tuple #[.int .i64 i, c]) w' → wpList P ops Q rest (a.put o.dst (.tuple #[.bool true, .int .i64 i, c])) w') :
    wpList P ops Q (o :: rest) a w := by
  obtain ⟨D, left, h1, hh, hl⟩ := h
  refine wpList_next_ranges w hg it hop k K rv (Value.int .i64) (fun v : Value => v) (fun key kl hkey => by obtain ⟨x, rfl, _⟩ := Maps.keyOf_int_inv hk hkey; exact ⟨x, rfl⟩) (fun v y _ => ⟨v, rfl⟩)
    b r n D left cnt hit h1 (fun _ h0 => hDone (fun i => by rw [← hl i]; exact h0 _)) (fun x c kl y w' cnt' hkey hlk hv hat hrg hlt hgr hsz hen => ?_)
  obtain ⟨x', ex, rfl, hwx⟩ := Maps.keyOf_int_inv hk hkey
  cases ex
  simp only [rv, Option.some.injEq] at hv
  subst hv
  refine hMore x c w' cnt' hwx (by rw [← hl]; exact hlk) ?_ ⟨D, _, hrg, hh, fun i => by show (left _ && !Lit.sameKey _ _) = _; rw [hl i, sameKey_i64]⟩ hlt hgr hsz hen
  have e1 := hat (.lit (.bool true))
  have e2 := hat (.lit (.bool false))
  have e3 := hh (.int .i64 x) (.lit (.bool true))
  rw [e1] at e3
  cases hgx : g (.int .i64 x) with
  | none => rw [hgx] at e3; cases e3
  | some v => rw [hgx] at e3; simp only [DataW.held.injEq] at e3; rw [e3]

theorem wpList_mdelete (hg : o.guard = none) (m x : Operand) (t k : TypeId) (hop : o.op = Op.call { callee := Callee.builtin Builtin.delete, args := #[m, x], argTypes := #[t, k] })
    (e : TypeId) (K : Keyed P k) (ht : P.underlying t = some (.map k e)) {b r n : Nat} {g : Lit → Option Value} {lt : Int → Bool} {cnt : Nat}
    (hm : a.eval m = .map (some b)) (h : MapRange P k w b r n g lt cnt) (i : Int) (hx : a.eval x = .int .i64 i) (hkey : keyOf P k (.int .i64 i) = some (.int .i64 i))
    (hK : ∀ w' cnt', MapRange P k w' b r n (upd g (.int .i64 i) none) (fun j => lt j && !(j == i)) cnt' → cnt' ≤ cnt → w.mapTurned w' b → wpList P ops Q rest (a.put o.dst (.tuple #[])) w') :
    wpList P ops Q (o :: rest) a w := by
  obtain ⟨D, left, h1, hh, hl⟩ := h
  refine wpList_delete_ranges w hg m x t k hop e K ht rv b r n D left cnt hm h1 _ (.int .i64 i) hx hkey (fun w' cnt' hrg hle htu => hK w' cnt' ⟨_, _, hrg, fun l z => ?_, fun j => by show (left _ && !Lit.sameKey _ _) = _; rw [hl j, sameKey_i64]⟩ hle htu)
  by_cases hl : l = .int .i64 i
  · subst hl
    rw [atKey_del_same, upd_same]
  · rw [atKey_del_other hl, hh l z, upd_other g hl]
end
end Go.Proofs.Ytgmgofcclddkiaa
