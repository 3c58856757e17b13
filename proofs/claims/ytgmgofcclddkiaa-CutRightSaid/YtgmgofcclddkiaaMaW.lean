/- The law CutMany walked: it answers true for every list of claims. -/
import Derived.Test.YtgmgofcclddkiaaCu6
import Derived.Test.YtgmgofcclddkiaaCuO
namespace Go.Proofs.Ytgmgofcclddkiaa
open Go.RowKit Go.Maps Go.WideShapes

/-- Agree's answer: something is agreed on, or not -/
theorem res_cases {cs : List Clm} {e : Ending} (h : AgreeRes cs e) : ∃ l h vv er : Int, e = retA l h vv er ∧ (0 ≤ vv ∧ vv ≤ 64) ∧ ((er = 0 ∧ Good cs l h vv) ∨ ((er = 1 ∨ er = 4 ∨ er = 10) ∧ ∀ l h v, ¬ Good cs l h v)) := by
  rcases h with ⟨hA, rfl⟩ | ⟨hA, hl, rfl⟩ | ⟨hA, hl, l, h, vv, hI, ⟨h2, rfl⟩ | ⟨h2, rfl⟩⟩
  · exact ⟨_, _, _, _, rfl, by omega, .inr ⟨by omega, fun l h v g => by have := g.1; rw [hA] at this; cases this⟩⟩
  · exact ⟨_, _, _, _, rfl, by omega, .inr ⟨by omega, fun l h v g => by have := g.2.1; omega⟩⟩
  · exact ⟨_, _, _, _, rfl, by omega, .inr ⟨by omega, fun l' h' v' g => by have := (hI.unique g.2.2.1).1; have := g.2.2.2; omega⟩⟩
  · refine ⟨_, _, _, _, rfl, ⟨hI.nonneg, ?_⟩, .inl ⟨rfl, hA, hl, hI, h2⟩⟩
    have := hI.at_low (by omega)
    have := votes_le (lastOf cs) l
    have := length_lastOf cs
    omega

/-- as many servers as have all of it: no more than there are votes -/
theorem ids_le {cs : List Clm} {l h v : Int} (hg : Good cs l h v) {ids : List Int} (ht : TrueRes cs ids) : (ids.length : Int) ≤ v := by
  have hp := ht.2.2 l h v hg
  have hv : 0 < v := by have := hg.2.2.2; omega
  rw [hp.length_eq, List.length_map, ← hg.2.2.1.at_low hv]
  unfold votes
  rw [List.countP_eq_length_filter]
  have hlh := (hg.2.2.1.ends hv).1
  have : ((lastOf cs).filter (inC l h)).length ≤ ((lastOf cs).filter (hasB l)).length := by
    rw [← List.countP_eq_length_filter, ← List.countP_eq_length_filter]
    refine List.countP_mono_left (fun c _ hc => ?_)
    rw [hasB_iff]
    unfold inC at hc
    simp only [Bool.and_eq_true, decide_eq_true_eq] at hc
    omega
  omega

set_option maxRecDepth 100000 in
set_option maxHeartbeats 4000000 in
theorem many_walk (w : World) (v : Value) (cs : List Clm) (hc : ClmsAt w v cs) (hok : ∀ c ∈ cs, okC c) :
    Calls Try.prog 11 #[v] w fun e w' => e = .returned (.bool true) ∧ Below w.heap.size w w' := by
  have hml := hc.1
  rw [List.length_map] at hml
  obtain ⟨a, cap, rfl, _⟩ := hc.cells
  have hml2 : cs.length ≤ 9223372036854775807 := by unfold maxLen at hml; omega
  have HC := Lib.hid hc
  have HOK := Lib.hid hok
  have haw := Lib.hid (awake16 w)
  clear hml hc hok
  by_cases hl : 64 < (cs.length : Int)
  · go_enter Try.func11, Try.ntmps11
    go_wp2_with fail
    refine haw.out.mono ?_
    rintro e w1 ⟨rfl, hb⟩
    have HB := Lib.hid hb
    clear hb
    go_wp2_with fail
    go_ret
    exact ⟨rfl, HB.out⟩
  · go_enter Try.func11, Try.ntmps11
    go_wp2_with fail
    refine haw.out.mono ?_
    rintro e w1 ⟨rfl, hb⟩
    have HB := Lib.hid hb
    clear hb
    go_wp2_with fail
    refine (agree_any w1 _ cs (HC.out.keep HB.out) HOK.out).mono ?_
    rintro e w2 ⟨hres, hb⟩
    obtain ⟨al, ah, av, er, rfl, hav, hcase⟩ := res_cases hres
    have HB2 := Lib.hid (HB.out.trans (hb.mono HB.out.size))
    have HCA := Lib.hid hcase
    unfold retA
    obtain ⟨hav1, hav2⟩ := hav
    clear hres hb HB hcase
    go_wp2_with fail
    refine (true_any w2 _ cs (HC.out.keep HB2.out) HOK.out).mono ?_
    rintro e w3 ⟨vi, ids, rfl, hrow, htr, hb⟩
    have HB3 := Lib.hid (HB2.out.trans (hb.mono HB2.out.size))
    have hfin : (er = 0 ∧ (ids.length : Int) ≤ av) ∨ ((er = 1 ∨ er = 4 ∨ er = 10) ∧ ids.length = 0) := by
      rcases HCA.out with ⟨h1, h2⟩ | ⟨h1, h2⟩
      · exact .inl ⟨h1, ids_le h2 htr⟩
      · exact .inr ⟨h1, by rw [htr.2.1 h2]; rfl⟩
    have HF := Lib.hid hfin
    have hil : ids.length ≤ 64 := by omega
    have HRI := Lib.hid htr.1
    have HR := Lib.hid hrow
    obtain ⟨ai, ci, rfl⟩ := row_form hrow
    clear hrow htr hb hfin HB2 HC HOK HCA haw
    go_wp2_with fail
    go_loopw [25] (fun ix wr => ∃ k : Nat, k ≤ ids.length ∧ ix = .int .i64 k ∧ ∃ n, wr = w3.drewN n) (fun ix _ => ids.length - (RowKit.intOf ix).toNat)
    case atStart => exact ⟨0, Nat.zero_le _, rfl, 0, rfl⟩
    case round =>
      obtain ⟨k, hk, rfl, n, rfl⟩ := hrel
      by_cases hlt : k < ids.length
      · obtain ⟨g, gc, hgv, hgb, hgs, hcl⟩ := row_cells HR.out (by omega)
        cases hgv
        rcases Nat.eq_zero_or_pos k with hk0 | hk0
        · subst hk0
          clear hcl
          go_wp2_with fail
          go_quiet (fail)
          go_wp2
          go_roundw
          case rel => exact ⟨0 + 1, by omega, by go_num, n + nq, by first | rfl | rw [World.drewN_drewN]⟩
          case measure => simp [RowKit.intOf]; omega
        · obtain ⟨kp, rfl⟩ : ∃ kp, k = kp + 1 := ⟨k - 1, by omega⟩
          have c0 := hcl kp (by omega)
          have c1 := hcl (kp + 1) (by omega)
          rw [List.getElem?_map, List.getElem?_eq_getElem (by omega)] at c0 c1
          simp only [Option.map_some] at c0 c1
          have hxy := List.pairwise_iff_getElem.1 HRI.out kp (kp + 1) (by omega) hlt (by omega)
          obtain ⟨x, hx⟩ : ∃ x, x = ids[kp] := ⟨_, rfl⟩
          obtain ⟨y, hy⟩ : ∃ y, y = ids[kp + 1] := ⟨_, rfl⟩
          rw [← hx] at c0 hxy
          rw [← hy] at c1 hxy
          have d1 : decide (x ≥ y) = false := decide_eq_false (by omega)
          have d2 : decide (y ≤ x) = false := decide_eq_false (by omega)
          have d3 : decide ((kp : Int) + 1 > 0) = true := decide_eq_true (by omega)
          have i1 : ((kp : Int)).toNat = kp := by omega
          have i2 : (kp : Int) < (ids.length : Int) := by omega
          have i3 : IntKind.i64.wrap (kp : Int) = (kp : Int) := by rw [IntKind.wrap_i64]; omega
          have i4 : (kp : Int) + 1 - 1 = (kp : Int) := by omega
          have i5 : ((kp : Int) + 1).toNat = kp + 1 := by omega
          have i6 : (kp : Int) + 1 < (ids.length : Int) := by omega
          clear hcl hx hy
          have e0 : ∀ q, (w3.drewN q).cell? ⟨g, kp, none⟩ = some (.int .i64 x) := fun q => by rw [World.cell?_drewN]; exact c0
          have e1 : ∀ q, (w3.drewN q).cell? ⟨g, kp + 1, none⟩ = some (.int .i64 y) := fun q => by rw [World.cell?_drewN]; exact c1
          go_wp2_with fail
          go_quiet (fail)
          go_wp2
          go_roundw
          case rel => exact ⟨kp + 1 + 1, by omega, by go_num, n + nq, by first | rfl | rw [World.drewN_drewN]⟩
          case measure => simp [RowKit.intOf]; omega
      · obtain rfl : k = ids.length := by omega
        have HB4 := Lib.hid (below_drewN HB3.out n)
        generalize w3.drewN n = w4 at HB4 ⊢
        rcases HF.out with ⟨rfl, h2⟩ | ⟨rfl | rfl | rfl, h2⟩
        · go_wp2
          go_ret
          exact ⟨rfl, HB4.out⟩
        all_goals
          go_wp2
          go_ret
          exact ⟨rfl, HB4.out⟩
end Go.Proofs.Ytgmgofcclddkiaa
