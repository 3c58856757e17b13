/- The law CutRight walked: it answers true for every offset, every list of widths and every list of marks. -/
import Derived.Test.YtgmgofcclddkiaaCuP
import Derived.Test.YtgmgofcclddkiaaSaW
namespace Go.Proofs.Ytgmgofcclddkiaa
open Go.RowKit Go.Maps Go.WideShapes

/-- the claims that were made, in the loop's slots -/
def Mk (w : World) (off : Int) (bs : List Bool) (ps : List Pr) (vl vr ix : Value) (wr : World) : Prop :=
  ∃ k : Nat, k ≤ ps.length ∧ k ≤ 40 ∧ ix = .int .i64 k ∧ vr = .int .i64 (rightN bs k) ∧ wr.ownsRow w.heap.size 62 3 vl k (flatC (mkL off bs ps k)) ∧ Below w.heap.size w wr

theorem mk_next {w w3 w5 : World} {off : Int} {bs : List Bool} {ps : List Pr} {k : Nat} (h1 : k < ps.length) (h2 : k < 40) {v v' : Value} {c : Clm} (hc : mkC off bs k (ps.getD k (0, 0)) = c) (hr3 : w3.ownsRow w.heap.size 62 3 v k (flatC (mkL off bs ps k))) (hb3 : Below w.heap.size w w3) (hB : w.heap.size ≤ w3.heap.size)
    {ob : Obj} (hg : (w3.alloc ob).grownBy w5 v.ownBlock) (hown : w5.ownsRow w.heap.size 62 3 v' (k + 1) (flatC (mkL off bs ps k) ++ [.int .i64 c.1, .int .i64 c.2.1, .int .i64 c.2.2])) {vr ix : Value} (hvr : vr = .int .i64 (rightN bs (k + 1))) (hix : ix = .int .i64 (k + 1 : Nat)) : Mk w off bs ps v' vr ix w5 := by
  refine ⟨k + 1, by omega, by omega, hix, hvr, ?_, below_own hb3 hr3 hg hB⟩
  rw [mkL_succ, hc, flatC_append]; exact hown

set_option maxRecDepth 100000 in
set_option maxHeartbeats 8000000 in
theorem right_walk (w : World) (o : Int) (how : (Lit.int .i64 o).wf = true) (vp : Value) (ps : List Pr) (hp : PairsAt w vp ps) (hpo : ∀ p ∈ ps, okP p) (vb : Value) (bs : List Bool) (hb : CellsAt w vb (bs.map Value.bool)) :
    Calls Try.prog 10 #[.int .i64 o, vp, vb] w fun e w' => e = .returned (.bool true) ∧ Below w.heap.size w w' := by
  have ho := i64b how
  have hpl := hp.1
  have hbl := hb.1
  rw [List.length_map] at hpl hbl
  obtain ⟨ap, cp, rfl, hpc⟩ := hp.cells
  obtain ⟨ab, cb, rfl, hbc⟩ := hb.2
  rw [List.length_map] at hbc
  rw [List.length_map]
  have hpl2 : ps.length ≤ 9223372036854775807 := by unfold maxLen at hpl; omega
  have hbl2 : bs.length ≤ 9223372036854775807 := by unfold maxLen at hbl; omega
  have HPC := Lib.hid hpc
  have HBC := Lib.hid hbc
  have HPO := Lib.hid hpo
  have haw := Lib.hid (awake16 w)
  obtain ⟨i0, hi, hz0, hz1, hz2⟩ := info_parts info62
  have HI := Lib.hid hi
  clear hp hb hpl hbl hpc hbc hpo hi how
  obtain ⟨ho1, ho2⟩ := ho
  go_enter Try.func10, Try.ntmps10
  go_wp2_with fail
  refine haw.out.mono ?_
  rintro e w1 ⟨rfl, hb⟩
  have HB := Lib.hid hb
  clear hb haw
  go_wp2_with fail
  have hto := Int.tmod_lt_of_pos o (show (0 : Int) < 1125899906842624 by omega)
  have hto2 := Int.lt_tmod_of_pos o (show (0 : Int) < 1125899906842624 by omega)
  generalize o.tmod 1125899906842624 = off at hto hto2 ⊢
  have HRW0 := Lib.hid (ownsRow_base (row_lit w1 #[] 62 3 0 rfl (by decide)) HB.out.size)
  have HB0 := Lib.hid (HB.out.alloc HB.out.size (.cells #[] 62))
  clear HB ho1 ho2
  generalize w1.alloc (.cells #[] 62) = w2 at HRW0 HB0 ⊢
  go_loopw [7, 8, 9] (fun vl vr ix wr => Mk w off bs ps vl vr ix wr) (fun _ _ ix _ => 40 - (RowKit.intOf ix).toNat)
  case atStart => exact ⟨0, Nat.zero_le _, by omega, rfl, rfl, HRW0.out, HB0.out⟩
  case round =>
    clear HRW0 HB0
    obtain ⟨k, hk1, hk2, rfl, rfl, hrow, hb⟩ := hrel
    have HRW := Lib.hid hrow
    have HB := Lib.hid hb
    have hrn := rightN_le bs k
    clear hrow hb
    by_cases hlt : k < ps.length ∧ k < 40
    · obtain ⟨hlt1, hlt2⟩ := hlt
      obtain ⟨g, o0, rfl, hcp⟩ := HPC.out (by omega)
      obtain ⟨hg, c0, c1⟩ := hcp k ps[k] (List.getElem?_eq_getElem hlt1)
      rw [← HB.out.cell (p := ⟨g, _, none⟩) hg] at c0 c1
      have hpk := HPO.out ps[k] (List.getElem_mem hlt1)
      have hgd : ps.getD k (0, 0) = ps[k] := by rw [List.getD_eq_getElem?_getD, List.getElem?_eq_getElem hlt1]; rfl
      obtain ⟨x, hx⟩ : ∃ x, x = ps[k].1 := ⟨_, rfl⟩
      obtain ⟨y, hy⟩ : ∃ y, y = ps[k].2 := ⟨_, rfl⟩
      have hgd2 : ps.getD k (0, 0) = (x, y) := by rw [hgd, hx, hy]
      unfold okP at hpk
      rw [← hx, ← hy] at hpk
      rw [← hx] at c0
      rw [← hy] at c1
      have HGD := Lib.hid hgd2
      obtain ⟨⟨hx1, hx2⟩, hy1, hy2⟩ := hpk
      have hwz := HB.out.size
      obtain ⟨av, cv, rfl⟩ := row_form HRW.out
      have d0 : ∀ ob, (wr.alloc ob).cell? ⟨g, o0 + k * 2, none⟩ = some (.int .u16 x) := fun ob => by
        rw [World.cell?_of_block (w := wr) (Below.heap_alloc wr ob g (by omega))]; exact c0
      have d1 : ∀ ob, (wr.alloc ob).cell? ⟨g, o0 + k * 2 + 1, none⟩ = some (.int .u16 y) := fun ob => by
        rw [World.cell?_of_block (w := wr) (Below.heap_alloc wr ob g (by omega))]; exact c1
      clear hcp hx hy hgd hgd2
      go_wp2_with fail
      go_big_region
      go_upto_region 10 with fail
      have e3 : ∀ j, ((wr.alloc (.cells #[.int .i64 k, .int .i64 (off - x), .int .i64 (off + y)] 62)).drew).cell? ⟨wr.heap.size, j, none⟩ = (#[Value.int .i64 k, .int .i64 (off - x), .int .i64 (off + y)])[j]? := fun j => by
        rw [World.cell?_drew, cell_of (MapKept.heap_alloc wr _).1]
      have f3 : ∀ j, ((wr.alloc (.cells #[.int .i64 k, .int .i64 (off - x), .int .i64 (off + y)] 62)).drew).frozen? ⟨wr.heap.size, j, none⟩ = false := fun j => by
        rw [World.frozen?_drew, frozen_of (MapKept.heap_alloc wr _).1]
      have e30 : ((wr.alloc (.cells #[.int .i64 k, .int .i64 (off - x), .int .i64 (off + y)] 62)).drew).cell? ⟨wr.heap.size, 0, none⟩ = some (.int .i64 k) := e3 0
      have e31 : ((wr.alloc (.cells #[.int .i64 k, .int .i64 (off - x), .int .i64 (off + y)] 62)).drew).cell? ⟨wr.heap.size, 1, none⟩ = some (.int .i64 (off - x)) := e3 1
      have e32 : ((wr.alloc (.cells #[.int .i64 k, .int .i64 (off - x), .int .i64 (off + y)] 62)).drew).cell? ⟨wr.heap.size, 2, none⟩ = some (.int .i64 (off + y)) := e3 2
      have f31 := f3 1
      have f32 := f3 2
      have g0 : ((wr.alloc (.cells #[.int .i64 k, .int .i64 (off - x), .int .i64 (off + y)] 62)).drew).cell? ⟨g, o0 + k * 2, none⟩ = some (.int .u16 x) := by rw [World.cell?_drew]; exact d0 _
      have g1 : ((wr.alloc (.cells #[.int .i64 k, .int .i64 (off - x), .int .i64 (off + y)] 62)).drew).cell? ⟨g, o0 + k * 2 + 1, none⟩ = some (.int .u16 y) := by rw [World.cell?_drew]; exact d1 _
      have HR3 := Lib.hid (HRW.out.alloc (.cells #[.int .i64 k, .int .i64 (off - x), .int .i64 (off + y)] 62)).drew
      have HB3 := Lib.hid (HB.out.alloc HB.out.size (.cells #[.int .i64 k, .int .i64 (off - x), .int .i64 (off + y)] 62)).drew
      have hz3 : ((wr.alloc (.cells #[.int .i64 k, .int .i64 (off - x), .int .i64 (off + y)] 62)).drew).heap.size = wr.heap.size + 1 := by simp
      have hmx : k + 1 ≤ maxLen := by unfold maxLen; omega
      clear d0 d1 c0 c1 e3 f3
      have hgz : g < wr.heap.size := by omega
      obtain ⟨z, hz⟩ : ∃ z, z = wr.heap.size := ⟨_, rfl⟩
      have hBz : w.heap.size ≤ z := by omega
      rw [← hz] at e30 e31 e32 f31 f32 hz3 hgz ⊢
      generalize (wr.alloc (.cells #[.int .i64 k, .int .i64 (off - x), .int .i64 (off + y)] 62)).drew = w3 at e30 e31 e32 f31 f32 g0 g1 HR3 HB3 hz3 ⊢
      have hsz3 : w.heap.size ≤ w3.heap.size := by omega
      have HRZ : Hid (∀ j ∈ blockOf (.slice av k cv), j < z) := by show ∀ j ∈ _, _; intro j hj; rw [hz]; exact (row_lt HRW.out j hj).2
      have hzl : z < w3.heap.size := by omega
      clear HRW HB hwz hz hz3
      by_cases hbk : k < bs.length
      · obtain ⟨b2, o2, rfl, hb2, hbc⟩ := HBC.out (by omega)
        have q0 := hbc k hbk
        rw [← HB3.out.cell (p := ⟨b2, _, none⟩) hb2, List.getElem?_map, List.getElem?_eq_getElem hbk] at q0
        simp only [Option.map_some] at q0
        have hwb : wrongB bs k = bs[k] := by unfold wrongB; rw [List.getD_eq_getElem?_getD, List.getElem?_eq_getElem hbk]; rfl
        clear hbc
        cases hbv : bs[k] with
        | true =>
          rw [hbv] at q0 hwb
          have HMK : Hid (mkC off bs k (ps.getD k (0, 0)) = ((k : Int), off + 1 + x, off + 1 + x + y)) := by show _ = _; rw [HGD.out]; unfold mkC; rw [hwb]; rfl
          have HRN : Hid (rightN bs (k + 1) = rightN bs k) := by show _ = _; rw [rightN_succ, hwb]; rfl
          have hnz : b2 ≠ z := by omega
          clear hwb hbv
          have k0 : ∀ (v : Value), (w3.setCell ⟨z, 1, none⟩ v).cell? ⟨z, 2, none⟩ = some (.int .i64 (off + y)) := fun v => by
            rw [World.cell?_setCell_other _ _ _ _ (by simp)]; exact e32
          go_wp2_with fail
          go_big_region
          go_upto_region 13 with fail
          have h0 : (((w3.setCell ⟨z, 1, none⟩ (.int .i64 (off + 1 + x))).setCell ⟨z, 2, none⟩ (.int .i64 (off + 1 + x + y))).drew).cell? ⟨z, 0, none⟩ = some (.int .i64 k) := by
            rw [World.cell?_drew, World.cell?_setCell_other _ _ _ _ (by simp), World.cell?_setCell_other _ _ _ _ (by simp)]; exact e30
          have h1 : (((w3.setCell ⟨z, 1, none⟩ (.int .i64 (off + 1 + x))).setCell ⟨z, 2, none⟩ (.int .i64 (off + 1 + x + y))).drew).cell? ⟨z, 1, none⟩ = some (.int .i64 (off + 1 + x)) := by
            rw [World.cell?_drew, World.cell?_setCell_other _ _ _ _ (by simp), World.cell?_setCell_same _ _ _ e31]
          have h2 : (((w3.setCell ⟨z, 1, none⟩ (.int .i64 (off + 1 + x))).setCell ⟨z, 2, none⟩ (.int .i64 (off + 1 + x + y))).drew).cell? ⟨z, 2, none⟩ = some (.int .i64 (off + 1 + x + y)) := by
            rw [World.cell?_drew, World.cell?_setCell_same _ _ _ (k0 _)]
          have HR4 : Hid ((((w3.setCell ⟨z, 1, none⟩ (.int .i64 (off + 1 + x))).setCell ⟨z, 2, none⟩ (.int .i64 (off + 1 + x + y))).drew).ownsRow w.heap.size 62 3 (.slice av k cv) k (flatC (mkL off bs ps k))) := by
            refine World.ownsRow.drew (row_keep HR3.out (fun j hj => ?_))
            have hjz : j ≠ z := by have := HRZ.out j hj; omega
            rw [Below.heap_setCell _ _ _ _ hjz, Below.heap_setCell _ _ _ _ hjz]
          have HB4 : Hid (Below w.heap.size w (((w3.setCell ⟨z, 1, none⟩ (.int .i64 (off + 1 + x))).setCell ⟨z, 2, none⟩ (.int .i64 (off + 1 + x + y))).drew)) :=
            ((HB3.out.setCell (p := ⟨z, 1, none⟩) hBz _).setCell (p := ⟨z, 2, none⟩) hBz _).drew
          have hsz4 := HB4.out.size
          clear HR3 HB3 e30 e31 e32 f31 f32 g0 g1 k0 q0 hsz3 hzl
          generalize ((w3.setCell ⟨z, 1, none⟩ (.int .i64 (off + 1 + x))).setCell ⟨z, 2, none⟩ (.int .i64 (off + 1 + x + y))).drew = w4 at h0 h1 h2 HR4 HB4 hsz4 ⊢
          go_wp2_with (at_builtin; refine wpList_append_own_at _ rfl _ _ 59 rfl w.heap.size 62 i0 (.agg #[.int .i64 0, .int .i64 0, .int .i64 0]) 3 24 Try.underlying59 HI.out hz0 hz1 hz2 rfl (by decide) _ _ _ rfl (HR4.out.alloc _) _ 1 1 [.int .i64 k, .int .i64 (off + 1 + x), .int .i64 (off + 1 + x + y)] rfl rfl (cell_three_at _ _ rfl _ _ _ _) (fun u hu => by simp at hu; rcases hu with rfl | rfl | rfl <;> rfl) hmx (by omega) (by simp; omega) ?_; intro v' w5 hown' hgrow _ hloc; have HOWN := Lib.hid hown'; have HGR := Lib.hid hgrow; clear hown' hgrow hloc)
          go_roundw
          case rel => exact mk_next hlt1 hlt2 HMK.out HR4.out HB4.out HB4.out.size HGR.out HOWN.out (by rw [HRN.out]) (by go_num)
          case measure => simp [RowKit.intOf]; omega
        | false =>
          rw [hbv] at q0 hwb
          clear hbv
          have hw : wrongB bs k = false := hwb
          have HMK : Hid (mkC off bs k (ps.getD k (0, 0)) = ((k : Int), off - x, off + y)) := by show _ = _; rw [HGD.out]; unfold mkC; rw [hw]; rfl
          have HRN : Hid (rightN bs (k + 1) = rightN bs k + 1) := by show _ = _; rw [rightN_succ, hw]; rfl
          clear hw
          go_wp2_with (at_builtin; refine wpList_append_own_at _ rfl _ _ 59 rfl w.heap.size 62 i0 (.agg #[.int .i64 0, .int .i64 0, .int .i64 0]) 3 24 Try.underlying59 HI.out hz0 hz1 hz2 rfl (by decide) _ _ _ rfl (HR3.out.alloc _) _ 1 1 [.int .i64 k, .int .i64 (off - x), .int .i64 (off + y)] rfl rfl (cell_three_at _ _ rfl _ _ _ _) (fun u hu => by simp at hu; rcases hu with rfl | rfl | rfl <;> rfl) hmx (by omega) (by simp; omega) ?_; intro v' w5 hown' hgrow _ hloc; have HOWN := Lib.hid hown'; have HGR := Lib.hid hgrow; clear hown' hgrow hloc)
          go_roundw
          case rel => exact mk_next hlt1 hlt2 HMK.out HR3.out HB3.out HB3.out.size HGR.out HOWN.out (by rw [HRN.out]; go_num) (by go_num)
          case measure => simp [RowKit.intOf]; omega
      · have hwb : wrongB bs k = false := by unfold wrongB; rw [List.getD_eq_getElem?_getD, List.getElem?_eq_none (by omega)]; rfl
        have hw : wrongB bs k = false := hwb
        have HMK : Hid (mkC off bs k (ps.getD k (0, 0)) = ((k : Int), off - x, off + y)) := by show _ = _; rw [HGD.out]; unfold mkC; rw [hw]; rfl
        have HRN : Hid (rightN bs (k + 1) = rightN bs k + 1) := by show _ = _; rw [rightN_succ, hw]; rfl
        clear hw
        go_wp2_with (at_builtin; refine wpList_append_own_at _ rfl _ _ 59 rfl w.heap.size 62 i0 (.agg #[.int .i64 0, .int .i64 0, .int .i64 0]) 3 24 Try.underlying59 HI.out hz0 hz1 hz2 rfl (by decide) _ _ _ rfl (HR3.out.alloc _) _ 1 1 [.int .i64 k, .int .i64 (off - x), .int .i64 (off + y)] rfl rfl (cell_three_at _ _ rfl _ _ _ _) (fun u hu => by simp at hu; rcases hu with rfl | rfl | rfl <;> rfl) hmx (by omega) (by simp; omega) ?_; intro v' w5 hown' hgrow _ hloc; have HOWN := Lib.hid hown'; have HGR := Lib.hid hgrow; clear hown' hgrow hloc)
        go_roundw
        case rel => exact mk_next hlt1 hlt2 HMK.out HR3.out HB3.out HB3.out.size HGR.out HOWN.out (by rw [HRN.out]; go_num) (by go_num)
        case measure => simp [RowKit.intOf]; omega
    · have hoff : -1125899906842624 < off ∧ off < 1125899906842624 := by omega
      have hrow := HRW.out
      obtain ⟨av, cv, rfl⟩ := row_form hrow
      have hlen := mkL_len off bs ps k
      have HC := Lib.hid (ClmsAt.of_row (cs := mkL off bs ps k) (by rw [hlen]; exact hrow) (by rw [hlen]; unfold maxLen; omega))
      have HOK := Lib.hid (mkL_ok hoff bs HPO.out k hk2)
      have HOFF := Lib.hid hoff
      clear hrow hlen HRW hoff
      have hguard : (k < ps.length ∧ ¬ k < 40) ∨ ¬ k < ps.length := by omega
      clear hlt
      rcases hguard with ⟨hg1, hg2⟩ | hg1
      all_goals
        go_wp2_with fail
        refine (agree_any wr _ (mkL off bs ps k) HC.out HOK.out).mono ?_
        rintro e w3 ⟨hres, hb⟩
        have HB3 := Lib.hid (HB.out.trans (hb.mono HB.out.size))
        have HC3 := Lib.hid (HC.out.keep hb)
        clear hb
        by_cases hr : 2 * (rightN bs k : Int) ≤ k
        · obtain ⟨l, h, v, er, rfl, hv, _⟩ := res_cases hres
          unfold retA
          clear hres
          go_wp2_with fail
          go_ret
          exact ⟨rfl, HB3.out⟩
        · obtain ⟨l, h, v, rfl, hrv, hv64, hmeet, hend⟩ := right_good HOFF.out bs HPO.out hk2 (by omega) hres
          have HME := Lib.hid hmeet
          have HEN := Lib.hid hend
          unfold retA
          clear hres hmeet hend
          go_wp2_with fail
          go_loopw [15, 115] (fun mt ix wr => ∃ j : Nat, j ≤ k ∧ ix = .int .i64 j ∧ mt = .bool (meetsN off bs ps l h j) ∧ Hid (Below w3.heap.size w3 wr)) (fun _ ix _ => k - (RowKit.intOf ix).toNat)
          case atStart => exact ⟨0, Nat.zero_le _, rfl, rfl, Below.refl _ _⟩
          case round =>
            obtain ⟨j, hj, rfl, rfl, HBL⟩ := hrel
            by_cases hlt : j < k
            · obtain ⟨a', cap', hv', hcl0⟩ := HC3.out.cells
              rw [mkL_len] at hv' hcl0
              cases hv'
              obtain ⟨g, o0, rfl, hcl⟩ := hcl0 (by omega)
              have hget : (mkL off bs ps k)[j]? = some (mkC off bs j (ps.getD j (0, 0))) := by
                unfold mkL; rw [List.getElem?_map, List.getElem?_range hlt]; rfl
              obtain ⟨hg, c0, c1, c2⟩ := hcl j _ hget
              rw [← HBL.out.cell (p := ⟨g, _, none⟩) hg] at c0 c1 c2
              rw [mkC_id] at c0
              obtain ⟨lo, hlo⟩ : ∃ lo, lo = (mkC off bs j (ps.getD j (0, 0))).2.1 := ⟨_, rfl⟩
              obtain ⟨hi, hhi⟩ : ∃ hi, hi = (mkC off bs j (ps.getD j (0, 0))).2.2 := ⟨_, rfl⟩
              rw [← hlo] at c1
              rw [← hhi] at c2
              have HCE : Hid (mkC off bs j (ps.getD j (0, 0)) = ((j : Int), lo, hi)) := by
                show _ = _; rw [hlo, hhi]; refine Prod.ext (mkC_id off bs j _) rfl
              obtain ⟨mt, hmt⟩ : ∃ mt, mt = meetsN off bs ps l h j := ⟨_, rfl⟩
              rw [← hmt]
              have HMT := Lib.hid hmt
              have HBA := Lib.hid (HBL.out.alloc HBL.out.size (.cells #[.int .i64 j, .int .i64 lo, .int .i64 hi] 62))
              have hzz := HBL.out.size
              have hz0 := HB3.out.size
              clear hcl hcl0 hget hlo hhi hmt
              by_cases hbk : j < bs.length
              · obtain ⟨b2, o2, rfl, hb2, hbc⟩ := HBC.out (by omega)
                have q0 := hbc j hbk
                rw [List.getElem?_map, List.getElem?_eq_getElem hbk] at q0
                simp only [Option.map_some] at q0
                have q3 : ∀ ob, (wr.alloc ob).cell? ⟨b2, o2 + j, none⟩ = some (.bool bs[j]) := fun ob => by
                  rw [World.cell?_of_block (w := wr) (Below.heap_alloc wr ob b2 (by omega)), HBL.out.cell (p := ⟨b2, _, none⟩) (by show b2 < w3.heap.size; omega), HB3.out.cell (p := ⟨b2, _, none⟩) hb2]; exact q0
                have hwb : wrongB bs j = bs[j] := by unfold wrongB; rw [List.getD_eq_getElem?_getD, List.getElem?_eq_getElem hbk]; rfl
                clear hbc q0
                cases hbv : bs[j] with
                | true =>
                  rw [hbv] at q3 hwb
                  have hmb : Hid (meetsN off bs ps l h (j + 1) = mt) := by show _ = _; rw [meetsN_succ, ← HMT.out]; unfold meetsB; rw [hwb]; simp
                  clear hwb hbv
                  go_wp2
                  go_roundw
                  case rel => exact ⟨j + 1, by omega, by go_num, by rw [hmb.out], HBA.out⟩
                  case measure => simp [RowKit.intOf]; omega
                | false =>
                  rw [hbv] at q3 hwb
                  clear hbv
                  by_cases q1 : lo ≤ h
                  · by_cases q2 : l ≤ hi
                    · have hmb : Hid (meetsN off bs ps l h (j + 1) = true) := by show _ = _; rw [meetsN_succ]; unfold meetsB; rw [HCE.out, hwb]; simp [q1, q2]
                      clear hwb
                      go_wp2
                      go_roundw
                      case rel => exact ⟨j + 1, by omega, by go_num, by rw [hmb.out], HBA.out⟩
                      case measure => simp [RowKit.intOf]; omega
                    · have hmb : Hid (meetsN off bs ps l h (j + 1) = mt) := by show _ = _; rw [meetsN_succ, ← HMT.out]; unfold meetsB; rw [HCE.out]; simp [q2]
                      clear hwb
                      go_wp2
                      go_roundw
                      case rel => exact ⟨j + 1, by omega, by go_num, by rw [hmb.out], HBA.out⟩
                      case measure => simp [RowKit.intOf]; omega
                  · have hmb : Hid (meetsN off bs ps l h (j + 1) = mt) := by show _ = _; rw [meetsN_succ, ← HMT.out]; unfold meetsB; rw [HCE.out]; simp [q1]
                    clear hwb
                    go_wp2
                    go_roundw
                    case rel => exact ⟨j + 1, by omega, by go_num, by rw [hmb.out], HBA.out⟩
                    case measure => simp [RowKit.intOf]; omega
              · have hwb : wrongB bs j = false := by unfold wrongB; rw [List.getD_eq_getElem?_getD, List.getElem?_eq_none (by omega)]; rfl
                by_cases q1 : lo ≤ h
                · by_cases q2 : l ≤ hi
                  · have hmb : Hid (meetsN off bs ps l h (j + 1) = true) := by show _ = _; rw [meetsN_succ]; unfold meetsB; rw [HCE.out, hwb]; simp [q1, q2]
                    clear hwb
                    go_wp2
                    go_roundw
                    case rel => exact ⟨j + 1, by omega, by go_num, by rw [hmb.out], HBA.out⟩
                    case measure => simp [RowKit.intOf]; omega
                  · have hmb : Hid (meetsN off bs ps l h (j + 1) = mt) := by show _ = _; rw [meetsN_succ, ← HMT.out]; unfold meetsB; rw [HCE.out]; simp [q2]
                    clear hwb
                    go_wp2
                    go_roundw
                    case rel => exact ⟨j + 1, by omega, by go_num, by rw [hmb.out], HBA.out⟩
                    case measure => simp [RowKit.intOf]; omega
                · have hmb : Hid (meetsN off bs ps l h (j + 1) = mt) := by show _ = _; rw [meetsN_succ, ← HMT.out]; unfold meetsB; rw [HCE.out]; simp [q1]
                  clear hwb
                  go_wp2
                  go_roundw
                  case rel => exact ⟨j + 1, by omega, by go_num, by rw [hmb.out], HBA.out⟩
                  case measure => simp [RowKit.intOf]; omega
            · obtain rfl : j = k := by omega
              rw [HME.out]
              have HB4 := Lib.hid (HB3.out.trans (HBL.out.mono HB3.out.size))
              rcases HEN.out with h1 | ⟨h1, h2⟩
              · go_wp2
                go_ret
                exact ⟨rfl, HB4.out⟩
              · by_cases h3 : rightN bs j < j
                · go_wp2
                  go_ret
                  exact ⟨rfl, HB4.out⟩
                · go_wp2
                  go_ret
                  exact ⟨rfl, HB4.out⟩
end Go.Proofs.Ytgmgofcclddkiaa
