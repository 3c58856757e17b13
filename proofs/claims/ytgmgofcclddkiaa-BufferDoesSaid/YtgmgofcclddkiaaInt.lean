/- The buffer's Intervals: a new slice of the intervals that have something, rising. -/
import Derived.Test.YtgmgofcclddkiaaPut
import Derived.Test.YtgmgofcclddkiaaIter
import Derived.TacticsInMore
import Derived.OwnWalkIn
namespace Go.Proofs.Ytgmgofcclddkiaa
open Go.RowKit Go.Maps Go.WideShapes Go.Sort Go.Shelf

/-- slices.Sort's two contracts at this dump, at the fence that asks nothing. -/
theorem sortsA (m : Nat) : AnyZI.SortsIn Try.prog Try.sortedA_ren Fence.wide m :=
  ⟨fun blk off cap ss W hH hblk hsz => callsIn_wide.2 (AnyM.slices_Sort_int Try.sortA blk off cap ss W hH hblk hsz),
   fun p cap W => callsIn_wide.2 (AnyM.slices_Sort_int_none Try.sortA p cap W)⟩

set_option maxHeartbeats 1000000 in
theorem intervals_walk (p b nn : Nat) (D0 : DataW Value) (w : World) (hown : w.ownsMap Try.prog 3 rv b nn D0) (hmax : Maps.size D0 ≤ maxLen) (hbytes : Maps.size D0 * 8 ≤ 140737488355328) (c2 : w.cell? ⟨p, 2, none⟩ = some (.map (some b))) :
    Calls Try.prog 24 #[.pointer (some ⟨p, 0, none⟩)] w fun e w' => ∃ (v : Value) (ss : List Int), e = .returned v ∧ ss.Perm (intKeys D0) ∧
      w'.ownsRow w.heap.size 3 1 v ss.length ((ss.mergeSort (fun x y => decide (x ≤ y))).map encZ) ∧ (v = .slice none 0 0 ↔ ss = []) ∧ Below w.heap.size w w' := by
  refine (callsIn_wide (n := 6)).1 ?_
  have hbl := hown.lt
  have hseq : SeqGives Fence.wide 2 Try.prog 45 #[.pointer (some ⟨w.heap.size, 0, none⟩)] encZ (fun ss => ss.Perm (intKeys D0)) (Maps.size D0) (w.alloc (.cells #[.map (some b)] 69)) :=
    AnyZI.keys_gives (ρ := Try.keysA_ren) { Try.keysA with } Fence.wide _ trivial rfl (by omega) w.heap.size b nn D0 _ (by simp) (by simp) (by
      obtain ⟨es, clock, hb, Ft, hs, hD⟩ := hown
      exact ⟨es, clock, (Below.heap_alloc _ _ b hbl).trans hb, Ft, hs, hD⟩)
  have cK : ∀ mb W, CallsIn Fence.wide 5 Try.prog 35 #[.map mb] W fun e w' => e = .returned (.func (.func 45) #[] #[.pointer (some ⟨W.heap.size, 0, none⟩)]) ∧ w' = W.alloc (.cells #[.map mb] 69) := fun mb W => AnyZI.keys_in Try.keysA Fence.wide 5 trivial rfl mb W
  have cS := AnyZI.sorted_in Try.sortedA Fence.wide 5 trivial trivial trivial trivial rfl (by omega) (sortsA _) (enters_of Try.func44 (by kernel_rfl) rfl) 45 #[.pointer (some ⟨w.heap.size, 0, none⟩)] trivial (enters_of Try.func45 (by kernel_rfl) rfl) _ _ hmax hbytes _ hseq
  change CallsIn _ _ Try.prog 34 _ _ _ at cS
  have hfK : Fence.wide.fn 35 := trivial
  have hfS : Fence.wide.fn 34 := trivial
  refine callsIn_of_wp Try.func24 rfl trivial ?_ rfl
  simp only [Try.ntmps24, List.size_toArray, List.length_cons, List.length_nil, Nat.reduceAdd, Nat.reduceSub, Array.replicate_succ, Array.replicate_zero, List.push_toArray, List.append_toArray, List.nil_append, List.cons_append]
  gi_wp2_with (first
    | (gi_at_call 35; refine (cK _ _).mono ?_; rintro e w' ⟨rfl, rfl⟩)
    | (gi_at_call 34; refine cS.mono ?_; rintro e w' ⟨v, ss, rfl, hS, hrow, hnil, hb⟩))
  go_ret
  exact ⟨v, ss, rfl, hS, ownsRow_base_a hrow (by simp), hnil, ((Below.refl _ w).alloc (Nat.le_refl _) _).trans (hb.mono (by simp))⟩

/-- a map's int keys are just those of which g speaks -/
theorem MapIs.intKeys_perm {P : Program} {k : TypeId} {w : World} {b n : Nat} {g : Lit → Option Value} (h : MapIs P k w b n g) (hk : P.underlying k = some (.int .i64)) {xs : List Int} (hn : xs.Nodup)
    (hg : ∀ l, (g l).isSome = true ↔ ∃ x ∈ xs, l = .int .i64 x) : ∃ D, w.ownsMap P k rv b xs.length D ∧ Maps.size D = xs.length ∧ xs.Perm (intKeys D) := by
  have K := int_keyed hk
  have hnd : (xs.map (Lit.int .i64 ·)).Nodup := List.pairwise_map.2 (hn.imp (fun h e => h (by simpa using e)))
  obtain ⟨D, ho, hD, hs⟩ := h.count K (ks := xs.map (Lit.int .i64 ·)) hnd (fun l => by
    rw [hg l, List.mem_map]
    constructor
    · rintro ⟨x, hx, rfl⟩; exact ⟨x, hx, rfl⟩
    · rintro ⟨x, hx, rfl⟩; exact ⟨x, hx, rfl⟩)
  rw [List.length_map] at ho hs
  refine ⟨D, ho, hs, ?_⟩
  have ht := ho.tidy K
  have hent : ∀ es, D = .map es → ∀ p ∈ es, ∃ x, p.1 = .int .i64 x := by
    intro E hE p hp
    obtain ⟨es, clock, hb, F, _, hD'⟩ := ho
    rw [hE] at hD'
    simp only [DataW.map.injEq] at hD'
    have hp' : p ∈ (es.toList.map (WideElems.rg P k rv)) := by
      rw [← (sorted_perm (es.toList.map (WideElems.rg P k rv))).mem_iff, ← hD']; exact hp
    obtain ⟨x, hx, rfl⟩ := List.mem_map.1 hp'
    obtain ⟨y, hy⟩ := F.reads x hx
    rw [WideElems.rg_of hy]
    obtain ⟨a, _, ha, _⟩ := keyOf_i64 hk (WideElems.rd_key hy)
    exact ⟨a, ha⟩
  obtain ⟨E, rfl, hE⟩ := ht
  refine perm_intKeys hE (hent E rfl) hn (fun x => ?_)
  rw [holds_has hD, hg]
  constructor
  · intro hx; exact ⟨x, hx, rfl⟩
  · rintro ⟨y, hy, e⟩
    have : x = y := by simpa using e
    rw [this]; exact hy

theorem slotG_some (L : Things) (fc fs : Int → Nat) (l : Lit) : (slotG L fc fs l).isSome = true ↔ ∃ x ∈ ivs L, l = .int .i64 x := by
  rw [← keysOf_mem L fc fs l]
  unfold keysOf
  rw [List.mem_map]
  constructor
  · rintro ⟨x, hx, rfl⟩; exact ⟨x, hx, rfl⟩
  · rintro ⟨x, hx, rfl⟩; exact ⟨x, hx, rfl⟩

theorem sorted_of_rise {l : List Int} (h : l.Pairwise (· < ·)) : l.mergeSort (fun x y => decide (x ≤ y)) = l := by
  refine List.mergeSort_of_pairwise (h.imp (fun h => ?_))
  simp only [decide_eq_true_eq]; omega

/-- what Intervals leaves behind -/
def IntPost (w : World) (L : Things) (e : Ending) (w' : World) : Prop :=
  ∃ v, e = .returned v ∧ w'.ownsRow w.heap.size 3 1 v (ivs L).length ((ivs L).map (Value.int .i64)) ∧ (v = .slice none 0 0 ↔ ivs L = []) ∧ Below w.heap.size w w'

theorem intervals_any {w : World} {p : Nat} {F : Nat → Prop} {each room : Nat} {L : Things} {dr : Int} (h : Rep w p F each room L dr) :
    Calls Try.prog 24 #[.pointer (some ⟨p, 0, none⟩)] w (IntPost w L) := by
  obtain ⟨hf, mb, fc, fs, g⟩ := h
  obtain ⟨D, ho, hs, hp⟩ := g.slots.intKeys_perm Try.underlying3 (ivs_nodup L) (slotG_some L fc fs)
  have hm := hf.many
  have h4 := hf.b4
  refine (intervals_walk p mb _ D w ho (by rw [hs]; unfold maxLen; omega) (by rw [hs]; omega) (by rw [cell_of g.own]; rfl)).mono ?_
  rintro e w' ⟨v, ss, rfl, hperm, hrow, hnil, hb⟩
  have hpp : ss.Perm (ivs L) := hperm.trans hp.symm
  have hsort : ss.mergeSort (fun x y => decide (x ≤ y)) = ivs L := (mergeSort_of_perm_i hpp).trans (sorted_of_rise (ivs_rise L))
  rw [hsort, hpp.length_eq] at hrow
  refine ⟨v, rfl, hrow, ?_, hb⟩
  rw [hnil]
  constructor
  · intro e; subst e; exact (List.Perm.nil_eq hpp).symm
  · intro e; rw [e] at hpp; exact hpp.eq_nil
end Go.Proofs.Ytgmgofcclddkiaa
