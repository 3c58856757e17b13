/- cut.last: the map that holds of each server the last claim. -/
import Derived.Test.YtgmgofcclddkiaaCu1
import Derived.Maps.Own
import Derived.OwnWalk
namespace Go.Proofs.Ytgmgofcclddkiaa
open Go.RowKit Go.Maps Go.WideShapes

theorem keyed3 : Keyed Try.prog 3 := int_keyed Try.underlying3

/-- a map that holds the claims of L by their servers -/
def gOf (L : List Clm) : Lit → Option Value
  | .int .i64 i => (L.find? (fun c => c.1 == i)).map aggC
  | _ => none

theorem gOf_int (L : List Clm) (i : Int) : gOf L (.int .i64 i) = (L.find? (fun c => c.1 == i)).map aggC := rfl
theorem gOf_nil : (fun _ => none) = gOf [] := by
  funext l; unfold gOf; split <;> rfl

theorem find_filter (acc : List Clm) (i j : Int) (h : j ≠ i) : (acc.filter (fun x => !(x.1 == i))).find? (fun c => c.1 == j) = acc.find? (fun c => c.1 == j) := by
  induction acc with
  | nil => rfl
  | cons x acc ih =>
    by_cases hx : x.1 = i
    · have e1 : (x.1 == i) = true := by simpa using hx
      have e2 : (x.1 == j) = false := by simp only [beq_eq_false_iff_ne]; intro e; exact h (e.symm.trans hx)
      rw [List.filter_cons, List.find?_cons, e2]
      simp [e1, ih]
    · have e1 : (x.1 == i) = false := by simpa using hx
      rw [List.filter_cons]
      simp only [e1, Bool.not_false, if_true, List.find?_cons, ih]

theorem gOf_step (acc : List Clm) (c : Clm) (l : Lit) : upd (gOf acc) (.int .i64 c.1) (some (aggC c)) l = gOf (lastStep acc c) l := by
  by_cases hl : l = .int .i64 c.1
  · subst hl
    rw [upd_same, gOf_int]
    unfold lastStep
    rw [List.find?_append]
    have : (acc.filter (fun x => !(x.1 == c.1))).find? (fun x => x.1 == c.1) = none := by
      rw [List.find?_eq_none]
      intro x hx
      have := (List.mem_filter.1 hx).2
      simpa using this
    rw [this]
    simp
  · rw [upd_other _ hl]
    unfold gOf lastStep
    split
    · rename_i i
      have hi : i ≠ c.1 := fun e => hl (by rw [e])
      rw [List.find?_append, find_filter acc c.1 i hi]
      have : ([c] : List Clm).find? (fun x => x.1 == i) = none := by
        simp; exact fun e => hi e.symm
      rw [this]; simp
    · rfl

theorem gOf_some {L : List Clm} (l : Lit) : (gOf L l).isSome = true ↔ ∃ x ∈ L.map (·.1), l = .int .i64 x := by
  unfold gOf
  split
  · rename_i i
    rw [Option.isSome_map, List.find?_isSome]
    constructor
    · rintro ⟨c, hc, he⟩
      exact ⟨c.1, List.mem_map_of_mem hc, by rw [show c.1 = i from by simpa using he]⟩
    · rintro ⟨x, hx, he⟩
      obtain ⟨c, hc, rfl⟩ := List.mem_map.1 hx
      exact ⟨c, hc, by simpa using (by simpa using he.symm : c.1 = i)⟩
  · rename_i h
    constructor
    · intro e; cases e
    · rintro ⟨x, _, rfl⟩; exact absurd rfl (h x)

theorem gOf_get {L : List Clm} (hn : (L.map (·.1)).Nodup) {c : Clm} (hc : c ∈ L) : gOf L (.int .i64 c.1) = some (aggC c) := by
  rw [gOf_int]
  have : L.find? (fun x => x.1 == c.1) = some c := by
    induction L with
    | nil => cases hc
    | cons x L ih =>
      rw [List.map_cons, List.nodup_cons] at hn
      rw [List.find?_cons]
      rcases List.mem_cons.1 hc with rfl | hc
      · simp
      · have : (x.1 == c.1) = false := by
          simp only [beq_eq_false_iff_ne]
          intro e; exact hn.1 (by rw [e]; exact List.mem_map_of_mem hc)
        rw [this]; exact ih hn.2 hc
  rw [this]; rfl

theorem gOf_of {L : List Clm} {i : Int} {v : Value} (h : gOf L (.int .i64 i) = some v) : ∃ c ∈ L, c.1 = i ∧ v = aggC c := by
  unfold gOf at h
  obtain ⟨c, hc, rfl⟩ := Option.map_eq_some_iff.1 h
  exact ⟨c, List.mem_of_find?_eq_some hc, by simpa using List.find?_some hc, rfl⟩

/-- what last leaves -/
def LastPost (w : World) (cs : List Clm) (e : Ending) (w' : World) : Prop :=
  ∃ b, e = .returned (.map (some b)) ∧ w.heap.size ≤ b ∧ MapIs Try.prog 3 w' b (lastOf cs).length (gOf (lastOf cs)) ∧ Below w.heap.size w w'

theorem take_lastOf (cs : List Clm) (k : Nat) (hk : k < cs.length) : lastOf (cs.take (k + 1)) = lastStep (lastOf (cs.take k)) cs[k] := by
  rw [List.take_succ_eq_append_getElem hk, lastOf_snoc]

theorem MapIs.tightL {w : World} {b n : Nat} {L : List Clm} (h : MapIs Try.prog 3 w b n (gOf L)) (hn : (L.map (·.1)).Nodup) : MapIs Try.prog 3 w b L.length (gOf L) := by
  have hnd : ((L.map (·.1)).map (Lit.int .i64 ·)).Nodup := List.pairwise_map.2 (hn.imp (fun h e => h (by simpa using e)))
  have := h.tight keyed3 (ks := (L.map (·.1)).map (Lit.int .i64 ·)) hnd (fun l => by
    rw [gOf_some l, List.mem_map]
    constructor
    · rintro ⟨x, hx, rfl⟩; exact ⟨x, hx, rfl⟩
    · rintro ⟨x, hx, rfl⟩; exact ⟨x, hx, rfl⟩)
  simpa using this

set_option maxRecDepth 100000 in
set_option maxHeartbeats 4000000 in
theorem last_any (w : World) (v : Value) (cs : List Clm) (hc : ClmsAt w v cs) (hlen : cs.length ≤ 64) (hok : ∀ c ∈ cs, okC c) :
    Calls Try.prog 40 #[v] w (LastPost w cs) := by
  obtain ⟨a, cap, rfl, hcells⟩ := hc.cells
  have HC := Lib.hid hcells
  have HOK := Lib.hid hok
  clear hcells hc hok
  have hmm := @run_makeMap Try.prog
  go_enter Try.func40, Try.ntmps40
  go_wp2
  clear hmm
  have hm0 : MapIs Try.prog 3 (w.alloc (.map #[] 0)) w.heap.size (lastOf []).length (gOf (lastOf [])) := by
    have := MapIs.made w Try.prog 3
    rw [gOf_nil] at this; exact this
  have HM0 := Lib.hid hm0
  clear hm0
  go_loopw [9] (fun i wr => ∃ k : Nat, k ≤ cs.length ∧ i = .int .i64 k ∧ Hid (MapIs Try.prog 3 wr w.heap.size (lastOf (cs.take k)).length (gOf (lastOf (cs.take k)))) ∧ Hid (Below w.heap.size w wr)) (fun i _ => cs.length - (RowKit.intOf i).toNat)
  case atStart => exact ⟨0, Nat.zero_le _, rfl, HM0.out, (Below.refl _ w).alloc (Nat.le_refl _) _⟩
  case round =>
    clear HM0
    obtain ⟨k, hk, rfl, HM, HB⟩ := hrel
    by_cases hlt : k < cs.length
    · obtain ⟨b, o, rfl, hcl⟩ := HC.out (by omega)
      obtain ⟨hb, c0, c1, c2⟩ := hcl k cs[k] (List.getElem?_eq_getElem hlt)
      rw [← HB.out.cell (p := ⟨b, _, none⟩) hb] at c0 c1 c2
      have hkc := HOK.out cs[k] (List.getElem_mem hlt)
      obtain ⟨c, hcc⟩ : ∃ c, c = cs[k] := ⟨_, rfl⟩
      rw [← hcc] at c0 c1 c2 hkc
      have hstep := take_lastOf cs k hlt
      rw [← hcc] at hstep
      have HS := Lib.hid hstep
      have hl64 : (lastOf (cs.take k)).length < maxLen := by
        have := length_lastOf (cs.take k); rw [List.length_take] at this; unfold maxLen; omega
      have HKEY := Lib.hid (keyOf_int_mk (a := c.1) Try.underlying3 (by simp [Lit.wf, IntKind.min, IntKind.max, IntKind.bits, IntKind.signed]; have := hkc.1; omega))
      obtain ⟨L0, hL0⟩ : ∃ L0, L0 = lastOf (cs.take k) := ⟨_, rfl⟩
      rw [← hL0] at HM HS hl64
      have HN0 : Hid ((L0.map (·.1)).Nodup) := by show List.Nodup _; rw [hL0]; exact lastOf_nodup _
      have hmt := HM.out.lt
      clear hcl hb hcc hstep hL0 hkc
      have HM1 := Lib.hid (HM.out.block (w' := wr.alloc (.cells #[.int .i64 c.1, .int .i64 c.2.1, .int .i64 c.2.2] 62)) (Below.heap_alloc _ _ _ hmt))
      have HB1 := Lib.hid (HB.out.alloc HB.out.size (.cells #[.int .i64 c.1, .int .i64 c.2.1, .int .i64 c.2.2] 62))
      have hbs := HB.out.size
      clear HM HB
      go_wp2_with (at_mapUpdate; refine wpList_store (val := aggC c) _ rfl _ _ _ 87 rfl keyed3 Try.underlying87 rfl HM1.out hl64 rfl rfl HKEY.out ?_; intro w2 hm2 ht2; have HM2 := Lib.hid hm2; have HT2 := Lib.hid ht2; clear hm2 ht2)
      go_roundw
      case rel =>
        refine ⟨k + 1, by omega, by go_num, ?_, ?_⟩
        · show MapIs _ _ _ _ _ _
          rw [HS.out]
          exact (HM2.out.congr (fun l => (gOf_step L0 c l).symm)).tightL (lastStep_nodup HN0.out c)
        · show Below _ _ _
          obtain ⟨es, clock, es', clock', hbk, he⟩ := HT2.out
          refine HB1.out.trans ⟨by rw [he]; rfl, by rw [he]; rfl, by rw [he]; rfl, by rw [he]; simp [ChangeMaps.setBlock], fun j hj => ?_⟩
          exact mapTurned_heap_ne HT2.out (by omega)
      case measure => simp [RowKit.intOf]; omega
    · obtain rfl : k = cs.length := by omega
      go_wp2
      go_ret
      refine ⟨w.heap.size, rfl, Nat.le_refl _, ?_, HB.out⟩
      have := HM.out
      rw [List.take_length] at this
      exact this
end Go.Proofs.Ytgmgofcclddkiaa
