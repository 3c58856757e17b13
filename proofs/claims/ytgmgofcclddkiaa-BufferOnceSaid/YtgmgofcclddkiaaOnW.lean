/- The law BufferOnce walked: it answers true for every room and every list of acts. -/
import Derived.Test.YtgmgofcclddkiaaOnA
import Derived.Deep.CutBlock
import Derived.Deep.RegionWith
import Derived.Deep.RegionHeld3
import Derived.Carry
namespace Go.Proofs.Ytgmgofcclddkiaa
open Go.RowKit Go.Maps Go.WideShapes

theorem zero36 (w : World) : (zeroValue 36).run Try.prog w = .ok (.slice none 0 0) w := by kernel_rfl

set_option maxRecDepth 100000 in
set_option maxHeartbeats 8000000 in
theorem once_walk (w : World) (c : Int) (hcw : (Lit.int .u8 c).wf = true) (d : Int) (hdw : (Lit.int .u8 d).wf = true) (v : Value) (xs : List ActD) (hx : ActsAt w v xs) (hxs : ∀ x ∈ xs, x.ok) :
    Calls Try.prog 4 #[.int .u8 c, .int .u8 d, v] w fun e w' => e = .returned (.bool true) ∧ Below w.heap.size w w' := by
  have haw := Lib.hid (awake_any w)
  obtain ⟨hc0, hc1⟩ := u8b hcw
  obtain ⟨hd0, hd1⟩ := u8b hdw
  have hml := hx.1
  obtain ⟨a, cap, rfl, hcells⟩ := hx.cells
  rw [List.length_map] at hml
  have hml2 : xs.length ≤ 9223372036854775807 := by unfold maxLen at hml; omega
  have HC := Lib.hid hcells
  have HXS := Lib.hid hxs
  clear hcells hxs hcw hdw hml hx
  obtain ⟨ee, he⟩ : ∃ ee : Nat, (ee : Int) = c % 64 + 1 := ⟨(c % 64 + 1).toNat, by omega⟩
  obtain ⟨ss, hs⟩ : ∃ ss : Nat, (ss : Int) = d % 64 + 1 := ⟨(d % 64 + 1).toNat, by omega⟩
  have he1 : 1 ≤ ee := by omega
  have he2 : ee ≤ 64 := by omega
  have hs1 : 1 ≤ ss := by omega
  have hs2 : ss ≤ 64 := by omega
  have HE := Lib.hid he
  have HS := Lib.hid hs
  clear he hs
  obtain ⟨i0, hi⟩ : ∃ i, Try.prog.info? 9 = some i := ⟨_, rfl⟩
  have hz0 : i0.zero = some (.string ByteArray.empty) := by cases hi; rfl
  have hz1 : i0.size = 1 := by cases hi; rfl
  have hz2 : i0.bytes = 16 := by cases hi; rfl
  have HI := Lib.hid hi
  clear hi
  have hmm := @run_makeMap Try.prog
  go_enter Try.func4, Try.ntmps4
  go_wp2_with fail
  refine haw.out.mono ?_
  rintro e w1 ⟨rfl, hb⟩
  have HB1 := Lib.hid hb
  clear hb
  go_wp2_with fail
  rw [← HE.out, ← HS.out]
  clear hc0 hc1 hd0 hd1 HE HS
  refine (BufAt.new (B := w.heap.size) (w0 := w) HB1.out HB1.out.size [] (by simp) ee ss (by omega) (by omega) (by omega) (by omega)).mono ?_
  rintro e' w2 ⟨rfl, h, _, _⟩
  have H2 : Hid (BufAt w.heap.size w w2 (w1.heap.size + 1) ee ss [] 0 []) := by show BufAt _ _ _ _ _ _ _ _ _; simpa using h
  clear h
  go_wp2_with fail
  go_loopw [10] (fun ix wr => ∃ (k : Nat) (L : Things), k ≤ xs.length ∧ k ≤ 100 ∧ ix = .int .i64 k ∧ Lying w.heap.size w (w1.heap.size + 1) ee ss w2.heap.size k [] L wr) (fun ix _ => xs.length - (intOf ix).toNat)
  case atStart => exact ⟨0, [], by omega, by omega, rfl, 0, 0, fun _ => .bool false, [w2.heap.size], by omega, by omega, by omega, by simp, by simp, H2.out.size, by simp, H2.out.alloc _, (MapIs.made _ _ _).congr (fun l => lieG_none _ l), fun i hi => by simp [hasI] at hi⟩
  case round =>
    obtain ⟨k, L, hk, hk100, rfl, hlie⟩ := hrel
    have HLIE := Lib.hid hlie
    clear hlie
    by_cases hlt : k < xs.length ∧ k < 100
    · obtain ⟨hlt1, hlt2⟩ := hlt
      obtain ⟨b, o, rfl, hcw⟩ := HC.out (by omega)
      obtain ⟨hbl, q0, q1, q2⟩ := hcw k xs[k] (by simp [hlt1])
      have hok := HXS.out xs[k] (List.getElem_mem _)
      obtain ⟨kd, i, t, hxk⟩ : ∃ kd i t, xs[k] = ⟨kd, i, t⟩ := ⟨_, _, _, rfl⟩
      rw [hxk] at q0 q1 q2 hok
      simp only [ActD.ok] at hok q0 q1 q2
      obtain ⟨dr, n, f, N, hd0, hd1, hn, hL, hmN, hmB, _, hbuf, hmap, hrows⟩ := HLIE.out
      have hbel := hbuf.below
      have r0 := (hbel.cell (p := ⟨b, o + k * 3, none⟩) hbl).trans q0
      have r1 := (hbel.cell (p := ⟨b, o + k * 3 + 1, none⟩) hbl).trans q1
      have r2 := (hbel.cell (p := ⟨b, o + k * 3 + 2, none⟩) hbl).trans q2
      have htz : t.size ≤ 9223372036854775807 := by have := hok.2.2; unfold maxLen at this; omega
      have HOK := Lib.hid hok
      obtain ⟨ob, hob⟩ : ∃ ob, ob = Obj.cells #[.int .i64 kd, .int .i64 i, .string t] 32 := ⟨_, rfl⟩
      have hb0 := (hbuf.alloc ob).alloc ob
      have hm0 : MapIs Try.prog 3 ((wr.alloc ob).alloc ob) w2.heap.size n (lieG L f) := (hmap.block ((MapKept.heap_alloc wr ob).2 _ hmap.lt)).block ((MapKept.heap_alloc (wr.alloc ob) ob).2 _ (by simp; have := hmap.lt; omega))
      have hr0 : RowsOf w.heap.size ((wr.alloc ob).alloc ob) N L f := hrows.keep (fun i hi k hk => by
        have := (row_lt (hrows i hi).1 k hk).2
        rw [(MapKept.heap_alloc (wr.alloc ob) ob).2 _ (by simp; omega), (MapKept.heap_alloc wr ob).2 _ this])
      have hl0 : ((wr.alloc ob).alloc ob).heap[wr.heap.size]? = some (.cells #[.int .i64 kd, .int .i64 i, .string t] 32 (0, 0)) := by rw [(MapKept.heap_alloc (wr.alloc ob) ob).2 _ (by simp), (MapKept.heap_alloc wr ob).1, hob]
      have hlb : wr.heap.size ≠ w2.heap.size := by have := hmap.lt; omega
      have HB0 := Lib.hid (hb0.sub (N' := wr.heap.size :: N) (fun j hj => by simp at hj; rcases hj with rfl | hj <;> simp [*]))
      have HM0 := Lib.hid hm0
      have HR0 := Lib.hid hr0
      have HL0 := Lib.hid hl0
      have HN := Lib.hid hmN
      have HOB := Lib.hid hob
      clear hcw q0 q1 q2 hok hxk hbel hb0 hm0 hr0 hl0 hob hmN hbuf hmap hrows HLIE
      go_wp2_with fail
      refine (large_any kd i t htz).mono ?_
      rintro e' w3 ⟨rfl, hw3⟩
      rw [← HOB.out] at hw3
      rw [← hw3] at HB0 HM0 HR0 HL0
      clear hw3 HOB
      have H3 := HB0
      have HM3 := HM0
      have HR3 := HR0
      have HL3 := HL0
      clear HB0 HM0 HR0 HL0
      by_cases hbigx : 200 < (t.size : Int)
      · go_wp2
        go_ret
        exact ⟨rfl, H3.out.below⟩
      · have l0 := cell_of HL3.out 0
        have l1 := cell_of HL3.out 1
        have l2 := cell_of HL3.out 2
        have hL64 : L.length < 4611686018427387904 := by omega
        by_cases hk0 : kd = 0
        · subst hk0
          by_cases hput : putE ee ss L i t = 0
          · have HP := Lib.hid (H3.out.put' i t HOK.out.2.1.1 HOK.out.2.1.2 HOK.out.2.2 (by omega) (by omega) hL64 (L' := L ++ [(i, t)]) (dr' := dr) hput rfl rfl)
            clear hput
            go_wp2_with fail
            refine HP.out.mono ?_
            rintro e' w4 ⟨rfl, hbuf4, hsm4⟩
            have H4 := Lib.hid hbuf4
            have HM4 := Lib.hid (HM3.out.block (hsm4.2 _ (List.mem_cons_of_mem _ HN.out)))
            have HR4 := Lib.hid (HR3.out.same (hsm4.sub (fun j hj => List.mem_cons_of_mem _ hj)))
            have hl4 := (hsm4.2 wr.heap.size (by simp)).trans HL3.out
            have m1 : w4.drew.cell? ⟨wr.heap.size, 1, none⟩ = some (.int .i64 i) := cell_of (w := w4.drew) hl4 1
            have m2 : w4.drew.cell? ⟨wr.heap.size, 2, none⟩ = some (.string t) := cell_of (w := w4.drew) hl4 2
            have hnm : n < maxLen := by unfold maxLen; omega
            have HL4 := Lib.hid hl4
            clear hbuf4 hsm4 hl4 l0 l1 l2
            have HK := Lib.hid (keyOf_int_mk Try.underlying3 (wf_i i HOK.out.2.1.1 HOK.out.2.1.2))
            go_upto_region 16 with (fail)
            have hrl := HR4.out.look i
            obtain ⟨av, cv, hv⟩ := row_form hrl.1
            have hlk1 := (HM4.out.block (w' := w4.drew) rfl).look keyed3 Try.underlying47 (zero36 _) HK.out
            have hm4a : MapIs Try.prog 3 ((w4.alloc (Obj.cells #[Value.string t] 9)).drew) w2.heap.size n (lieG L f) := HM4.out.block ((MapKept.heap_alloc w4 _).2 _ HM4.out.lt)
            have hlk2 := hm4a.look keyed3 Try.underlying47 (zero36 _) HK.out
            rw [show (lieG L f (Lit.int IntKind.i64 i)).getD (Value.slice none 0 0) = lieV L f i from rfl, hv] at hlk1 hlk2
            rw [hv] at hrl
            have hll := len_texts_le L i
            obtain ⟨tl, htl⟩ : ∃ tl, tl = (texts L i).length := ⟨_, rfl⟩
            rw [← htl] at hrl hlk1 hlk2 hll hv
            have hmx2 : tl + 1 ≤ maxLen := by unfold maxLen; omega
            have HRL := Lib.hid (show ((w4.alloc (Obj.cells #[Value.string t] 9)).drew).ownsRow w.heap.size 9 1 (Value.slice av tl cv) tl ((texts L i).map Value.string) from hrl.1.alloc _)
            have HV := Lib.hid hv
            have HTL := Lib.hid htl
            have HM4A := Lib.hid hm4a
            have hla := (MapKept.heap_alloc w4 (Obj.cells #[Value.string t] 9)).2 wr.heap.size (Array.getElem?_eq_some_iff.1 HL4.out).1
            have HLA := Lib.hid (hla.trans HL4.out)
            have ma1 : ((w4.alloc (Obj.cells #[Value.string t] 9)).drew).cell? ⟨wr.heap.size, 1, none⟩ = some (.int .i64 i) := cell_of (w := (w4.alloc (Obj.cells #[Value.string t] 9)).drew) HLA.out 1
            have ma2 : ((w4.alloc (Obj.cells #[Value.string t] 9)).drew).cell? ⟨wr.heap.size, 2, none⟩ = some (.string t) := cell_of (w := (w4.alloc (Obj.cells #[Value.string t] 9)).drew) HLA.out 2
            have hB4 := H4.out.size
            clear hrl hv htl hm4a hla
            go_region_held3 (fun w' => w'.cell? ⟨wr.heap.size, 1, none⟩ = some (.int .i64 i) ∧ w'.cell? ⟨wr.heap.size, 2, none⟩ = some (.string t)) ((refine ⟨?_, ?_⟩ <;> assumption)) ((
              refine step_append_own_at rfl _ _ 36 rfl w.heap.size 9 i0 (.string ByteArray.empty) 1 16 Try.underlying36 HI.out hz0 hz1 hz2 rfl (by decide) _ _ _ rfl HRL.out ⟨w4.heap.size, 0, none⟩ 1 1 [.string t] rfl rfl (cell_one_new _ _ _) (fun u hu => by simp at hu; subst hu; rfl) hmx2 (by omega) (by simp; omega) ?_
              intro v' w5 hown' hgrow _ hloc
              have hl5 := (hgrow.block wr.heap.size (Array.getElem?_eq_some_iff.1 HLA.out).1 (row_ne_cells HRL.out HLA.out (by decide))).trans HLA.out
              have m51 : w5.cell? ⟨wr.heap.size, 1, none⟩ = some (.int .i64 i) := cell_of hl5 1
              have m52 : w5.cell? ⟨wr.heap.size, 2, none⟩ = some (.string t) := cell_of hl5 2
              obtain ⟨w6, hupd, hm6, ht6⟩ := (HM4A.out.grown HRL.out hgrow).store keyed3 Try.underlying47 hnm HK.out v'
              have hl6 := (mapTurned_heap_ne ht6 hlb).trans hl5
              have m61 : w6.cell? ⟨wr.heap.size, 1, none⟩ = some (.int .i64 i) := cell_of hl6 1
              have m62 : w6.cell? ⟨wr.heap.size, 2, none⟩ = some (.string t) := cell_of hl6 2
              have HOWN := Lib.hid hown'
              have HG := Lib.hid hgrow
              have HLO := Lib.hid hloc
              have HM6 := Lib.hid hm6
              have HT6 := Lib.hid ht6
              clear hown' hgrow hloc hm6 ht6 hl5 hl6))
            all_goals
              clear hlk1 hlk2 hupd m1 m2 ma1 ma2 m51 m52 m61 m62
              go_wp2
              go_roundw
              case rel => exact ⟨k + 1, _, by omega, by omega, by go_num, lying_put hd0 hd1 hn hL HN.out hmB H4.out HM4.out HR4.out HTL.out HOWN.out HV.out HG.out HLO.out HM6.out HT6.out⟩
              case measure => simp [intOf]; omega
          · obtain ⟨q, hq⟩ : ∃ q, q = putE ee ss L i t := ⟨_, rfl⟩
            rw [← hq] at hput
            have hn0 : (q == 0) = false := by simpa using hput
            have HP := Lib.hid (H3.out.put' i t HOK.out.2.1.1 HOK.out.2.1.2 HOK.out.2.2 (by omega) (by omega) hL64 (v := q) (L' := L) (dr' := if q = 4 then dr + 1 else dr) hq.symm (by rw [if_neg hput]) rfl)
            clear hput hq
            go_wp2_with fail
            refine HP.out.mono ?_
            rintro e' w4 ⟨rfl, hbuf4, hsm4⟩
            have HLN := Lib.hid (lying_no (k := k) hd0 hd1 (by split <;> simp) hn hL HN.out hmB hbuf4 (HM3.out.block (hsm4.2 _ (List.mem_cons_of_mem _ HN.out))) (HR3.out.same (hsm4.sub (fun j hj => List.mem_cons_of_mem _ hj))))
            clear hbuf4 hsm4 l0 l1 l2
            go_wp2
            go_roundw
            case rel => exact ⟨k + 1, L, by omega, by omega, by go_num, HLN.out⟩
            case measure => simp [intOf]; omega
        · by_cases hk1 : kd = 1
          · subst hk1
            have HT := Lib.hid ((H3.out.drewN 1).take i HOK.out.2.1.1 HOK.out.2.1.2 hL64)
            have HK := Lib.hid (keyOf_int_mk Try.underlying3 (wf_i i HOK.out.2.1.1 HOK.out.2.1.2))
            obtain ⟨av, cv, hv⟩ := row_form (HR3.out.look i).1
            have hlk1 := (HM3.out.block (w' := w3.drew) rfl).look keyed3 Try.underlying47 (zero36 _) HK.out
            rw [show (lieG L f (Lit.int IntKind.i64 i)).getD (Value.slice none 0 0) = lieV L f i from rfl, hv] at hlk1
            have hll := len_texts_le L i
            have HV := Lib.hid hv
            have m1 : w3.drew.cell? ⟨wr.heap.size, 1, none⟩ = some (.int .i64 i) := cell_of (w := w3.drew) HL3.out 1
            have htl : (texts L i).length < 9223372036854775807 := by omega
            clear hv hk0
            go_upto_region 18 with (fail)
            go_region_held3 (fun w' => w'.cell? ⟨wr.heap.size, 1, none⟩ = some (.int .i64 i)) (assumption) (first
              | (go_at_call 20
                 refine HT.out.mono ?_
                 rintro e' w4 ⟨v4, rfl, hrow4, hbuf4, hsm4⟩
                 have HB4 := Lib.hid hbuf4
                 have HS4 := Lib.hid hsm4
                 have HM4 := Lib.hid (HM3.out.block (hsm4.2 _ (List.mem_cons_of_mem _ HN.out)))
                 have HR4 := Lib.hid (HR3.out.same (w' := w4) (hsm4.sub (fun j hj => List.mem_cons_of_mem _ hj)))
                 have hl4 := (hsm4.2 wr.heap.size (by simp)).trans HL3.out
                 have HL4 := Lib.hid hl4
                 have m41 : w4.cell? ⟨wr.heap.size, 1, none⟩ = some (.int .i64 i) := cell_of hl4 1
                 have hlk4 := HM4.out.look keyed3 Try.underlying47 (zero36 _) HK.out
                 rw [show (lieG L f (Lit.int IntKind.i64 i)).getD (Value.slice none 0 0) = lieV L f i from rfl, HV.out] at hlk4
                 have HS41 := Lib.hid (StrsAt.of_row hrow4)
                 have HS42 := Lib.hid (StrsAt.of_row (HV.out ▸ (HR4.out.look i).1))
                 clear hrow4 hbuf4 hsm4 hl4)
              | (go_at_call 19
                 refine (texts_yes HS41.out HS42.out htl).mono ?_
                 rintro e' w5 ⟨rfl, q, rfl⟩
                 have m51 : (w4.drewN q).cell? ⟨wr.heap.size, 1, none⟩ = some (.int .i64 i) := m41))
            all_goals
              go_wp2_with (at_delete; refine wpList_drop _ rfl _ _ 47 3 rfl keyed3 Try.underlying47 rfl (HM4.out.drewN q) rfl HK.out ?_; intro w6 hm6 ht6; have HM6 := Lib.hid hm6; have HT6 := Lib.hid ht6; clear hm6 ht6)
              go_roundw
              case rel => exact ⟨k + 1, _, by omega, by omega, by go_num, lying_take hd0 hd1 hn hL HN.out hmB HB4.out HM4.out HR4.out HM6.out HT6.out⟩
              case measure => simp [intOf]; omega
          · by_cases hk2 : kd = 2
            · subst hk2
              clear hk0 hk1
              go_wp2_with (at_range; refine wpList_mrange _ rfl _ 47 rfl 3 36 keyed3 Try.underlying47 rfl HM3.out ?_; intro w4 c4 hrg4 hgr4 hsz4; have HDR := Lib.hid (dropping_start (X := i) H3.out HR3.out HL3.out hrg4 hgr4 hsz4); clear hrg4 hgr4 hsz4)
              have hrB : w.heap.size ≤ w3.heap.size := H3.out.size
              go_frame
              go_loopw [12] (fun nv wr' => Dropping w.heap.size w (w1.heap.size + 1) ee ss wr.heap.size w2.heap.size w3.heap.size n dr L f N #[.int .i64 2, .int .i64 i, .string t] i nv wr') (fun _ wr' => wr'.rangeLeft w2.heap.size w3.heap.size)
              case atStart => exact HDR.out
              case round =>
                obtain ⟨lt, cnt, nn, hnn, rfl, hrg, hrows, hbuf, hlb5⟩ := hrel
                have hnl := metD_le L i lt
                rw [← hnn] at hnl
                have HNN := Lib.hid hnn
                have HRG := Lib.hid hrg
                have HRW := Lib.hid hrows
                have HBU := Lib.hid hbuf
                have HLB := Lib.hid hlb5
                clear hnn hrg hrows hbuf hlb5 HDR l0 l1 l2
                go_wp2_with (at_next; refine wpList_mnext _ rfl _ rfl 3 keyed3 Try.underlying3 rfl HRG.out ?_ ?_)
                · intro hlt
                  have hend := metD_end L i lt hlt
                  rw [← HNN.out] at hend
                  have HD := Lib.hid (HBU.out.drop i hL64)
                  have hq : ((L.length : Int) - ((dropL L i).length : Int) != (nn : Int)) = false := by rw [bne_eq_false_iff_eq]; omega
                  obtain ⟨ll, hll⟩ : ∃ ll, ll = L.length := ⟨_, rfl⟩
                  obtain ⟨l4, hl4⟩ : ∃ l4, l4 = (dropL L i).length := ⟨_, rfl⟩
                  rw [← hll, ← hl4] at hq hend
                  rw [← hll] at hL hL64 hnl
                  have HLL := Lib.hid hll
                  have HL4 := Lib.hid hl4
                  have HLT := Lib.hid hlt
                  have n1 := cell_of HLB.out 1
                  clear hll hl4 hlt
                  go_wp2_with fail
                  refine HD.out.mono ?_
                  rintro e' w5 ⟨rfl, hbuf5, hsm5⟩
                  rw [← HLL.out, ← HL4.out]
                  have HLY := Lib.hid (lying_drop (k := k) hd0 hd1 hn (HLL.out ▸ hL) HN.out hmB HLT.out HRG.out HRW.out hbuf5 hsm5)
                  clear hbuf5 hsm5 n1
                  go_wp2
                  go_roundw
                  case rel => exact ⟨k + 1, _, by omega, by omega, by go_num, HLY.out⟩
                  case measure => simp [intOf]; omega
                · intro x c w5 cnt5 hwf hltx hc hrg5 hcl hg5 hsz5 hen
                  have hrow := dropping_row HRW.out hltx hc
                  obtain ⟨ac, cc, rfl⟩ := row_form hrow
                  have hll := len_texts_le L x
                  obtain ⟨tl, htl⟩ : ∃ tl, tl = (texts L x).length := ⟨_, rfl⟩
                  rw [← htl] at hen hll ⊢
                  have HTL := Lib.hid htl
                  have HRG5 := Lib.hid hrg5
                  have HG5 := Lib.hid hg5
                  have HLX := Lib.hid hltx
                  have HKX := Lib.hid (keyOf_int_mk Try.underlying3 hwf)
                  have n1 := cell_of (cells_iter HLB.out HRG.out hg5) 1
                  clear hrow hc hrg5 hg5 hltx hwf htl
                  by_cases hxi : x < i
                  · go_wp2_with (at_delete; refine wpList_mdelete _ rfl _ _ 47 3 rfl 36 keyed3 Try.underlying47 rfl HRG5.out x rfl HKX.out ?_; intro w6 c6 hrg6 hle6 ht6; have HRG6 := Lib.hid hrg6; have HT6 := Lib.hid ht6; clear hrg6 ht6; go_frame)
                    go_roundw
                    case rel => exact dropping_take HNN.out HTL.out (by go_num) hxi HLX.out HRG.out HRW.out HBU.out HLB.out hrB HN.out hmB HRG5.out.map HRG6.out HG5.out HT6.out
                    case measure => rw [HRG6.out.left_eq, HRG.out.left_eq]; omega
                  · go_wp2
                    go_roundw
                    case rel => exact dropping_skip HNN.out hxi HRG.out HRW.out HBU.out HLB.out hrB HRG5.out HG5.out
                    case measure => rw [HRG5.out.left_eq, HRG.out.left_eq]; omega
            · have z0 : (kd == 0) = false := by simpa using hk0
              have z1 : (kd == 1) = false := by simpa using hk1
              have z2 : (kd == 2) = false := by simpa using hk2
              clear hk0 hk1 hk2
              go_wp2
              go_roundw
              case rel => exact ⟨k + 1, L, by omega, by omega, by go_num, lying_no hd0 hd1 (.inl rfl) hn hL HN.out hmB H3.out HM3.out HR3.out⟩
              case measure => simp [intOf]; omega
    · have hk2 : xs.length ≤ k ∨ (k < xs.length ∧ 100 ≤ k) := by omega
      clear hlt
      obtain ⟨dr, n, f, N, hd0, hd1, hn, hL, hmN, hmB, _, hbuf, hmap, hrows⟩ := HLIE.out
      have hwB := hbuf.size
      have HBU := Lib.hid hbuf
      have HMA := Lib.hid hmap
      have HRW := Lib.hid hrows
      have HN := Lib.hid hmN
      clear hbuf hmap hrows hmN HLIE
      rcases hk2 with hk2 | ⟨hk2, hk3⟩
      all_goals
        go_wp2_with (at_range; refine wpList_mrange _ rfl _ 47 rfl 3 36 keyed3 Try.underlying47 rfl HMA.out ?_; intro w4 c4 hrg4 hgr4 hsz4; have HLS := Lib.hid (lasting_start HBU.out HRW.out hrg4 hgr4 hsz4); clear hrg4 hgr4 hsz4)
        go_frame
        go_loopw [15] (fun _ wr' => Lasting w.heap.size w (w1.heap.size + 1) ee ss w2.heap.size wr.heap.size n dr L f N wr') (fun _ wr' => wr'.rangeLeft w2.heap.size wr.heap.size)
        case atStart => exact HLS.out
        case round =>
          obtain ⟨lt, cnt, hrg, hrows, hbuf⟩ := hrel
          have HRG := Lib.hid hrg
          have HRO := Lib.hid hrows
          have HBF := Lib.hid hbuf
          clear hrg hrows hbuf HLS
          go_wp2_with (at_next; refine wpList_mnext _ rfl _ rfl 3 keyed3 Try.underlying3 rfl HRG.out ?_ ?_)
          · intro hlt
            have hnil := keep_none L lt hlt
            have hbf : BufAt w.heap.size w _ (w1.heap.size + 1) ee ss [] dr _ := hnil ▸ HBF.out
            have HSZ := Lib.hid hbf.sizeC
            have HIV := Lib.hid hbf.intervals
            clear hlt hnil hbf
            go_wp2_with fail
            refine HSZ.out.mono ?_
            rintro e' w' ⟨rfl, rfl⟩
            go_wp2_with fail
            refine HIV.out.mono ?_
            rintro e' w5 ⟨v5, rfl, hrow5, hbuf5, hsm5⟩
            obtain ⟨a5, c5, rfl⟩ := row_form hrow5
            have HB5 := Lib.hid hbuf5.below
            clear hrow5 hbuf5 hsm5
            go_wp2
            go_ret
            exact ⟨rfl, HB5.out⟩
          · intro x c w5 cnt5 hwf hltx hc hrg5 hcl hg5 hsz5 hen
            rw [lieG_i] at hc
            have hhx : hasI L x = true := by
              by_cases hh : hasI L x = true
              · exact hh
              · rw [if_neg hh] at hc; cases hc
            rw [if_pos hhx] at hc
            injection hc with hc
            have hrow5 := HRO.out.iter HRG.out hg5
            have hrowx := (hrow5 x hhx).1
            have hcn := (hrow5 x hhx).2.1
            rw [hc] at hrowx hcn
            have HCN := Lib.hid hcn
            have hbx := HBF.out.grown hg5 (fun k e => by injection e with e; subst e; exact ⟨by simp, hwB⟩)
            have hfl : (L.filter (fun q => lt q.1)).length ≤ L.length := List.length_filter_le _ _
            have ht := hbx.take x (i64b hwf).1 (i64b hwf).2 (by omega)
            rw [texts_keep L lt hltx] at ht
            have htl := len_texts_le L x
            have HT := Lib.hid ht
            have HX := Lib.hid hrowx
            have HRO5 := Lib.hid hrow5
            have HRG5 := Lib.hid hrg5
            clear hcn hc hhx hrow5 hrowx hbx hfl ht hltx hwf hrg5
            go_wp2_with fail
            refine HT.out.mono ?_
            rintro e' w6 ⟨v6, rfl, hrow6, hbuf6, hsm6⟩
            have HB6 := Lib.hid hbuf6
            have HS6 := Lib.hid hsm6
            have HU := Lib.hid (StrsAt.of_row hrow6)
            have HV := Lib.hid (StrsAt.of_row (row_same HX.out hsm6 (fun j hj => List.mem_cons_of_mem _ (HCN.out j hj))))
            clear hrow6 hbuf6 hsm6
            go_wp2_with fail
            refine (texts_yes HU.out HV.out (by omega)).mono ?_
            rintro e' w7 ⟨rfl, q, rfl⟩
            go_wp2
            go_roundw
            case rel => exact lasting_step HN.out HRG5.out HRO5.out HB6.out HS6.out
            case measure =>
              have e1 := HRG5.out.left_eq
              have e2 := (HRG5.out.block (w' := w6.drewN q) (HS6.out.2 _ (List.mem_cons_of_mem _ HN.out)) (HS6.out.2 _ (by simp))).left_eq
              rw [e2, HRG.out.left_eq]; exact hcl
end Go.Proofs.Ytgmgofcclddkiaa
