/- The law BufferDoes walked: it answers true for every room and every list of acts. -/
import Derived.Test.YtgmgofcclddkiaaDoA
import Derived.Deep.RegionHeld3
import Derived.Deep.CutBlock
import Derived.BigQuiet
namespace Go.Proofs.Ytgmgofcclddkiaa
open Go.RowKit Go.Maps Go.WideShapes

theorem quiet_eq {P : Program} {f : FuncId} {args : Array Value} {w : World} {n : Nat} {v : Value}
    (h : Calls P f args (w.drewN n) fun e w' => e = .returned v ∧ w.drewN n = w') : Calls P f args (w.drewN n) fun e w'' => e = .returned v ∧ ∃ m, w'' = w.drewN m :=
  h.mono fun _ _ ⟨he, hm⟩ => ⟨he, n, hm.symm⟩

theorem putL_len (each room : Nat) (L : Things) (i : Int) (t : ByteArray) : (putL each room L i t).length ≤ L.length + 1 := by
  unfold putL; split
  · simp
  · omega
theorem putD_le (each room : Nat) (L : Things) (i : Int) (t : ByteArray) (dr : Int) : dr ≤ putD each room L i t dr ∧ putD each room L i t dr ≤ dr + 1 := by
  unfold putD; split <;> omega

set_option maxRecDepth 100000 in
set_option maxHeartbeats 8000000 in
theorem does_walk (w : World) (c : Int) (_hcw : (Lit.int .i64 c).wf = true) (d : Int) (_hdw : (Lit.int .i64 d).wf = true) (v : Value) (xs : List ActD) (hx : ActsAt w v xs) (hxs : ∀ x ∈ xs, x.ok) :
    Calls Try.prog 3 #[.int .i64 c, .int .i64 d, v] w fun e w' => e = .returned (.bool true) ∧ Below w.heap.size w w' := by
  have haw := Lib.hid (awake_any w)
  have hml := hx.1
  obtain ⟨a, cap, rfl, hcells⟩ := hx.cells
  rw [List.length_map] at hml
  have hml2 : xs.length ≤ 9223372036854775807 := by unfold maxLen at hml; omega
  have HC := Lib.hid hcells
  have HXS := Lib.hid hxs
  clear hcells hxs hml hx
  by_cases hgood : (1 ≤ c ∧ c ≤ 64) ∧ 1 ≤ d ∧ d ≤ 64
  · obtain ⟨⟨g1, g2⟩, g3, g4⟩ := hgood
    obtain ⟨ee, he⟩ : ∃ ee : Nat, (ee : Int) = c := ⟨c.toNat, by omega⟩
    obtain ⟨ss, hs⟩ : ∃ ss : Nat, (ss : Int) = d := ⟨d.toNat, by omega⟩
    subst he hs
    go_enter Try.func3, Try.ntmps3
    go_wp2_with fail
    refine haw.out.mono ?_
    rintro e w1 ⟨rfl, hb⟩
    have HB1 := Lib.hid hb
    clear hb
    go_wp2_with fail
    refine (BufAt.new (B := w.heap.size) (w0 := w) HB1.out HB1.out.size [] (by simp) ee ss (by omega) (by omega) (by omega) (by omega)).mono ?_
    rintro e' w2 ⟨rfl, h, _, _⟩
    have H2 : Hid (BufAt w.heap.size w w2 (w1.heap.size + 1) ee ss [] 0 []) := by show BufAt _ _ _ _ _ _ _ _ _; simpa using h
    clear h
    go_wp2_with fail
    refine (rnew_walk (w := w2) ee ss (by omega) (by omega) (by omega) (by omega)).mono ?_
    rintro e' w3 ⟨rfl, hw3⟩
    have HP3 : Hid (Pair w.heap.size w (w1.heap.size + 1) w2.heap.size ee ss [] 0 [] 0 [] w3) := by
      show Pair _ _ _ _ _ _ _ _ _ _ _ _
      refine ⟨.slice none 0 0, ?_, ⟨?_, World.ownsRow_nil _ _ _ _⟩, H2.out.size, by simp⟩
      · rw [hw3]; exact H2.out.alloc _
      · rw [hw3]; exact (MapKept.heap_alloc w2 _).1
    clear hw3
    go_wp2_with fail
    go_loopw [11] (fun ix wr => ∃ (k : Nat) (L : Things) (dr : Int), k ≤ xs.length ∧ k ≤ 100 ∧ ix = .int .i64 k ∧ L.length ≤ k ∧ 0 ≤ dr ∧ dr ≤ k ∧ Pair w.heap.size w (w1.heap.size + 1) w2.heap.size ee ss L dr L dr [] wr) (fun ix _ => xs.length - (intOf ix).toNat)
    case atStart => exact ⟨0, [], 0, by omega, by omega, rfl, by simp, by omega, by omega, HP3.out⟩
    case round =>
      obtain ⟨k, L, dr, hk, hk100, rfl, hL, hd0, hd1, hpair⟩ := hrel
      have HPA := Lib.hid hpair
      clear hpair
      by_cases hlt : k < xs.length ∧ k < 100
      · obtain ⟨hlt1, hlt2⟩ := hlt
        obtain ⟨b, o, rfl, hcw⟩ := HC.out (by omega)
        obtain ⟨hbl, q0, q1, q2⟩ := hcw k xs[k] (by simp [hlt1])
        have hok := HXS.out xs[k] (List.getElem_mem _)
        obtain ⟨kd, i, t, hxk⟩ : ∃ kd i t, xs[k] = ⟨kd, i, t⟩ := ⟨_, _, _, rfl⟩
        rw [hxk] at q0 q1 q2 hok
        simp only [ActD.ok] at hok q0 q1 q2
        have hbel := HPA.out.below
        have r0 := (hbel.cell (p := ⟨b, o + k * 3, none⟩) hbl).trans q0
        have r1 := (hbel.cell (p := ⟨b, o + k * 3 + 1, none⟩) hbl).trans q1
        have r2 := (hbel.cell (p := ⟨b, o + k * 3 + 2, none⟩) hbl).trans q2
        have htz : t.size ≤ 9223372036854775807 := by have := hok.2.2; unfold maxLen at this; omega
        have HOK := Lib.hid hok
        clear hcw q0 q1 q2 hok hxk hbel
        have HB0 := Lib.hid ((HPA.out.alloc (Obj.cells #[.int .i64 kd, .int .i64 i, .string t] 32)).alloc (Obj.cells #[.int .i64 kd, .int .i64 i, .string t] 32))
        go_wp2_with fail
        refine (large_any kd i t htz).mono ?_
        rintro e' w4 ⟨rfl, hw4⟩
        have H4 : Hid (Pair w.heap.size w (w1.heap.size + 1) w2.heap.size ee ss L dr L dr [wr.heap.size] w4) := by show Pair _ _ _ _ _ _ _ _ _ _ _ _; rw [hw4]; exact HB0.out.sub (by simp)
        have hlb : w4.heap[wr.heap.size]? = some (.cells #[.int .i64 kd, .int .i64 i, .string t] 32 (0, 0)) := by rw [hw4, Below.heap_alloc _ _ _ (by simp)]; exact (MapKept.heap_alloc wr _).1
        have HLB := Lib.hid hlb
        clear hw4 hlb HB0
        by_cases hbigx : 200 < (t.size : Int)
        · go_wp2
          go_ret
          exact ⟨rfl, H4.out.below⟩
        · have l0 := cell_of HLB.out 0
          have l1 := cell_of HLB.out 1
          have l2 := cell_of HLB.out 2
          have hL64 : L.length < 1000000 := by omega
          have hdr6 : dr < 1000000 := by omega
          go_upto_block 2 with (fail)
          go_cut [] from 40 to 157 (fun w' => ∃ (L' : Things) (dr' : Int), L'.length ≤ k + 1 ∧ 0 ≤ dr' ∧ dr' ≤ k + 1 ∧ Pair w.heap.size w (w1.heap.size + 1) w2.heap.size ee ss L' dr' L' dr' [wr.heap.size] w' ∧ w'.heap[wr.heap.size]? = some (.cells #[.int .i64 kd, .int .i64 i, .string t] 32 (0, 0)))
          case rest =>
            obtain ⟨L', dr', hl', hd0', hd1', hpair', hlb'⟩ := hcut
            have hL' : L'.length < 1000000 := by omega
            have HI := Lib.hid hpair'.bivs
            have HLB' := Lib.hid hlb'
            clear l0 l1 l2 hlb' hpair'
            go_wp2_with fail
            refine HI.out.mono ?_
            rintro e' w5 ⟨u5, rfl, hrow5, hp5, hs5⟩
            have HROW5 := Lib.hid hrow5
            have hl5 := (hs5.2 wr.heap.size (by simp)).trans HLB'.out
            have HL5 := Lib.hid hl5
            have HJ := Lib.hid (hp5.rivs hL')
            clear hrow5 hp5 hs5 hl5
            go_wp2_with fail
            refine HJ.out.mono ?_
            rintro e' w6 ⟨u6, rfl, hrow6, hp6, hs6⟩
            have hrow5 := row_same HROW5.out hs6 (fun j hj => by simp [hj])
            have hl6 := (hs6.2 wr.heap.size (by simp)).trans HL5.out
            have l1 := cell_of hl6 1
            have l2 := cell_of hl6 2
            have HP6 := Lib.hid hp6
            obtain ⟨af, cf, k2, k3⟩ := hp6.fields
            obtain ⟨a5, c5, rfl⟩ := row_form hrow5
            obtain ⟨a6, c6, rfl⟩ := row_form hrow6
            have HL6 := Lib.hid hl6
            have hni : (ivs L').length ≤ 1000000 := by have := len_ivs_len L'; omega
            obtain ⟨ni, hnn⟩ : ∃ ni, ni = (ivs L').length := ⟨_, rfl⟩
            rw [← hnn] at hrow5 hrow6 hni ⊢
            have HR5 := Lib.hid hrow5
            have HR6 := Lib.hid hrow6
            have HNN := Lib.hid hnn
            clear hrow5 hrow6 hp6 hs6 hl6 hnn
            go_upto_region 24 with (fail)
            go_quiet (first
              | (go_at_call 26; exact quiet_eq (HP6.out.drewN _).bsize)
              | (go_at_call 27; exact quiet_eq (HP6.out.drewN _).bdropped)
              | (go_at_call 28; exact quiet_eq ((HP6.out.drewN _).bhas i t HOK.out.2.1.1 HOK.out.2.1.2 HOK.out.2.2))
              | (go_at_call 29; exact quiet_eq ((HP6.out.drewN _).rhas i t hL')))
            go_wp2
            go_loopw [145] (fun ix wr' => ∃ (j q : Nat), j ≤ ni ∧ ix = .int .i64 j ∧ wr' = w6.drewN q) (fun ix _ => ni - (intOf ix).toNat)
            case atStart => exact ⟨0, _, by omega, rfl, rfl⟩
            case round =>
              obtain ⟨j, q, hj, rfl, rfl⟩ := hrel
              by_cases hjn : j < ni
              · obtain ⟨g5, _, hv5, _, _, hc5⟩ := row_cells HR5.out (by omega)
                obtain ⟨g6, _, hv6, _, _, hc6⟩ := row_cells HR6.out (by omega)
                simp only [Value.slice.injEq] at hv5 hv6
                obtain ⟨rfl, _, rfl⟩ := hv5
                obtain ⟨rfl, _, rfl⟩ := hv6
                obtain ⟨y, hy⟩ : ∃ y, ((ivs L').map (Value.int .i64))[j]? = some (.int .i64 y) := by
                  rw [List.getElem?_map, List.getElem?_eq_getElem (by rw [← HNN.out]; exact hjn)]
                  exact ⟨_, rfl⟩
                have e5 := (hc5 j hjn).trans hy
                have e6 := (hc6 j hjn).trans hy
                clear hc5 hc6 hy
                go_wp2
                go_quiet (fail)
                go_wp2
                exact ⟨⟨j + 1, _, by omega, by go_num, rfl⟩, by simp [intOf]; omega⟩
              · have hje : j = ni := by omega
                subst hje
                go_wp2
                go_roundw
                case rel => exact ⟨k + 1, L', dr', by omega, by omega, by go_num, by omega, by omega, by omega, (HP6.out.sub (by simp)).drewN _⟩
                case measure => simp [intOf]; omega
          case first =>
            by_cases hk0 : kd = 0
            · subst hk0
              have HB := Lib.hid ((H4.out.drewN 1).bput i t HOK.out.2.1.1 HOK.out.2.1.2 HOK.out.2.2 hd0 hdr6 hL64)
              have HR := Lib.hid ((H4.out.drewN 1).rput i t hd0 hdr6 hL64)
              have m1 : w4.drew.cell? ⟨wr.heap.size, 1, none⟩ = some (.int .i64 i) := cell_of (w := w4.drew) HLB.out 1
              have m2 : w4.drew.cell? ⟨wr.heap.size, 2, none⟩ = some (.string t) := cell_of (w := w4.drew) HLB.out 2
              go_upto_region 15 with (fail)
              go_region_held3 (fun w' => w'.cell? ⟨wr.heap.size, 1, none⟩ = some (.int .i64 i) ∧ w'.cell? ⟨wr.heap.size, 2, none⟩ = some (.string t)) ((refine ⟨?_, ?_⟩ <;> assumption)) (first
                | (go_at_call 17
                   refine HB2.out.mono ?_
                   rintro e' w6 ⟨rfl, hp6, hs6⟩
                   have hl6 := (hs6.2 wr.heap.size (by simp)).trans HL5.out
                   have m61 : w6.cell? ⟨wr.heap.size, 1, none⟩ = some (.int .i64 i) := cell_of hl6 1
                   have m62 : w6.cell? ⟨wr.heap.size, 2, none⟩ = some (.string t) := cell_of hl6 2
                   have HL6 := Lib.hid hl6
                   have HF := Lib.hid hp6
                   clear hp6 hs6 hl6)
                | (go_at_call 17
                   refine HB.out.mono ?_
                   rintro e' w5 ⟨rfl, hp5, hs5⟩
                   have hl5 := (hs5.2 wr.heap.size (by simp)).trans HLB.out
                   have m51 : w5.cell? ⟨wr.heap.size, 1, none⟩ = some (.int .i64 i) := cell_of hl5 1
                   have m52 : w5.cell? ⟨wr.heap.size, 2, none⟩ = some (.string t) := cell_of hl5 2
                   have HL5 := Lib.hid hl5
                   have HR2 := Lib.hid (hp5.rput i t hd0 hdr6 hL64)
                   clear hp5 hs5 hl5)
                | (go_at_call 18
                   refine HR2.out.mono ?_
                   rintro e' w6 ⟨rfl, hp6, hs6⟩
                   have hl6 := (hs6.2 wr.heap.size (by simp)).trans HL5.out
                   have m61 : w6.cell? ⟨wr.heap.size, 1, none⟩ = some (.int .i64 i) := cell_of hl6 1
                   have m62 : w6.cell? ⟨wr.heap.size, 2, none⟩ = some (.string t) := cell_of hl6 2
                   have HL6 := Lib.hid hl6
                   have HF := Lib.hid hp6
                   clear hp6 hs6 hl6)
                | (go_at_call 18
                   refine HR.out.mono ?_
                   rintro e' w5 ⟨rfl, hp5, hs5⟩
                   have hl5 := (hs5.2 wr.heap.size (by simp)).trans HLB.out
                   have m51 : w5.cell? ⟨wr.heap.size, 1, none⟩ = some (.int .i64 i) := cell_of hl5 1
                   have m52 : w5.cell? ⟨wr.heap.size, 2, none⟩ = some (.string t) := cell_of hl5 2
                   have HL5 := Lib.hid hl5
                   have HB2 := Lib.hid (hp5.bput i t HOK.out.2.1.1 HOK.out.2.1.2 HOK.out.2.2 hd0 hdr6 hL64)
                   clear hp5 hs5 hl5))
              all_goals
                have hq1 := putL_len ee ss L i t
                have hq2 := putD_le ee ss L i t dr
                clear m1 m2 m51 m52 m61 m62 l0 l1 l2
                go_wp2
                go_meet
                case rel => exact ⟨putL ee ss L i t, putD ee ss L i t dr, by omega, by omega, by omega, HF.out, HL6.out⟩
            · by_cases hk1 : kd = 1
              · subst hk1
                have HB := Lib.hid ((H4.out.drewN 1).btake i HOK.out.2.1.1 HOK.out.2.1.2 hL64)
                have HR := Lib.hid ((H4.out.drewN 1).rtake i hL64)
                have m1 : w4.drew.cell? ⟨wr.heap.size, 1, none⟩ = some (.int .i64 i) := cell_of (w := w4.drew) HLB.out 1
                have htl := len_texts_le L i
                have htl2 : (texts L i).length < 9223372036854775807 := by omega
                clear hk0
                go_upto_region 18 with (fail)
                go_region_held3 (fun w' => w'.cell? ⟨wr.heap.size, 1, none⟩ = some (.int .i64 i)) (assumption) (first
                  | (go_at_call 19
                     refine (texts_yes HSub.out HSur.out htl2).mono ?_
                     rintro e' w7 ⟨rfl, nq, rfl⟩
                     have m71 : (w6.drewN nq).cell? ⟨wr.heap.size, 1, none⟩ = some (.int .i64 i) := m61)
                  | (go_at_call 20
                     refine HB2.out.mono ?_
                     rintro e' w6 ⟨ub, rfl, hrow6, hp6, hs6⟩
                     have HSub := Lib.hid (StrsAt.of_row hrow6)
                     have HSur := Lib.hid (StrsAt.of_row (row_same HROW5.out hs6 (fun j hj => by simp [hj])))
                     have hl6 := (hs6.2 wr.heap.size (by simp)).trans HL5.out
                     have m61 : w6.cell? ⟨wr.heap.size, 1, none⟩ = some (.int .i64 i) := cell_of hl6 1
                     have HL6 := Lib.hid hl6
                     have HF := Lib.hid hp6
                     clear hp6 hs6 hl6 hrow6)
                  | (go_at_call 20
                     refine HB.out.mono ?_
                     rintro e' w5 ⟨ub, rfl, hrow5, hp5, hs5⟩
                     have HROW5 := Lib.hid hrow5
                     have hl5 := (hs5.2 wr.heap.size (by simp)).trans HLB.out
                     have m51 : w5.cell? ⟨wr.heap.size, 1, none⟩ = some (.int .i64 i) := cell_of hl5 1
                     have HL5 := Lib.hid hl5
                     have HR2 := Lib.hid (hp5.rtake i hL64)
                     clear hp5 hs5 hl5 hrow5)
                  | (go_at_call 21
                     refine HR2.out.mono ?_
                     rintro e' w6 ⟨ur, rfl, hrow6, hp6, hs6⟩
                     have HSur := Lib.hid (StrsAt.of_row hrow6)
                     have HSub := Lib.hid (StrsAt.of_row (row_same HROW5.out hs6 (fun j hj => by simp [hj])))
                     have hl6 := (hs6.2 wr.heap.size (by simp)).trans HL5.out
                     have m61 : w6.cell? ⟨wr.heap.size, 1, none⟩ = some (.int .i64 i) := cell_of hl6 1
                     have HL6 := Lib.hid hl6
                     have HF := Lib.hid hp6
                     clear hp6 hs6 hl6 hrow6)
                  | (go_at_call 21
                     refine HR.out.mono ?_
                     rintro e' w5 ⟨ur, rfl, hrow5, hp5, hs5⟩
                     have HROW5 := Lib.hid hrow5
                     have hl5 := (hs5.2 wr.heap.size (by simp)).trans HLB.out
                     have m51 : w5.cell? ⟨wr.heap.size, 1, none⟩ = some (.int .i64 i) := cell_of hl5 1
                     have HL5 := Lib.hid hl5
                     have HB2 := Lib.hid (hp5.btake i HOK.out.2.1.1 HOK.out.2.1.2 hL64)
                     clear hp5 hs5 hl5 hrow5))
                all_goals
                  have hq1 : (takeL L i).length ≤ L.length := List.length_filter_le _ _
                  clear m1 m51 m61 l0 l1 l2
                  go_wp2
                  go_meet
                  case rel => exact ⟨takeL L i, dr, by omega, hd0, by omega, (HF.out.sub (by simp)).drewN _, HL6.out⟩
              · by_cases hk2 : kd = 2
                · subst hk2
                  have HPO := Lib.hid (fun x hx => (H4.out.fine.pos x hx).1 : ∀ x ∈ L, 1 ≤ x.1)
                  have HB := Lib.hid ((H4.out.drewN 1).bdrop i hL64)
                  have HR := Lib.hid ((H4.out.drewN 1).rdrop i HOK.out.2.1.2 hL64 HPO.out)
                  have m1 : w4.drew.cell? ⟨wr.heap.size, 1, none⟩ = some (.int .i64 i) := cell_of (w := w4.drew) HLB.out 1
                  clear hk0 hk1
                  go_upto_region 21 with (fail)
                  go_region_held3 (fun w' => w'.cell? ⟨wr.heap.size, 1, none⟩ = some (.int .i64 i)) (assumption) (first
                    | (go_at_call 22
                       refine HB2.out.mono ?_
                       rintro e' w6 ⟨rfl, hp6, hs6⟩
                       have hl6 := (hs6.2 wr.heap.size (by simp)).trans HL5.out
                       have m61 : w6.cell? ⟨wr.heap.size, 1, none⟩ = some (.int .i64 i) := cell_of hl6 1
                       have HL6 := Lib.hid hl6
                       have HF := Lib.hid hp6
                       clear hp6 hs6 hl6)
                    | (go_at_call 22
                       refine HB.out.mono ?_
                       rintro e' w5 ⟨rfl, hp5, hs5⟩
                       have hl5 := (hs5.2 wr.heap.size (by simp)).trans HLB.out
                       have m51 : w5.cell? ⟨wr.heap.size, 1, none⟩ = some (.int .i64 i) := cell_of hl5 1
                       have HL5 := Lib.hid hl5
                       have HR2 := Lib.hid (hp5.rdrop i HOK.out.2.1.2 hL64 HPO.out)
                       clear hp5 hs5 hl5)
                    | (go_at_call 23
                       refine HR2.out.mono ?_
                       rintro e' w6 ⟨rfl, hp6, hs6⟩
                       have hl6 := (hs6.2 wr.heap.size (by simp)).trans HL5.out
                       have m61 : w6.cell? ⟨wr.heap.size, 1, none⟩ = some (.int .i64 i) := cell_of hl6 1
                       have HL6 := Lib.hid hl6
                       have HF := Lib.hid hp6
                       clear hp6 hs6 hl6)
                    | (go_at_call 23
                       refine HR.out.mono ?_
                       rintro e' w5 ⟨rfl, hp5, hs5⟩
                       have hl5 := (hs5.2 wr.heap.size (by simp)).trans HLB.out
                       have m51 : w5.cell? ⟨wr.heap.size, 1, none⟩ = some (.int .i64 i) := cell_of hl5 1
                       have HL5 := Lib.hid hl5
                       have HB2 := Lib.hid (hp5.bdrop i hL64)
                       clear hp5 hs5 hl5))
                  all_goals
                    have hq1 : (dropL L i).length ≤ L.length := List.length_filter_le _ _
                    clear m1 m51 m61 l0 l1 l2
                    go_wp2
                    go_meet
                    case rel => exact ⟨dropL L i, dr, by omega, hd0, by omega, HF.out, HL6.out⟩
                · have z0 : (kd == 0) = false := by simpa using hk0
                  have z1 : (kd == 1) = false := by simpa using hk1
                  have z2 : (kd == 2) = false := by simpa using hk2
                  clear hk0 hk1 hk2
                  go_wp2
                  go_meet
                  case rel => exact ⟨L, dr, by omega, by omega, by omega, H4.out, HLB.out⟩
      · have hk2 : xs.length ≤ k ∨ (k < xs.length ∧ 100 ≤ k) := by omega
        clear hlt
        rcases hk2 with hk2 | ⟨hk2, hk3⟩
        all_goals
          go_wp2
          go_ret
          exact ⟨rfl, HPA.out.below⟩
  · have hbad : c < 1 ∨ 64 < c ∨ d < 1 ∨ 64 < d := by omega
    have HBN := Lib.hid (fun w' : World => new_bad (w := w') c d hbad)
    have HRN := Lib.hid (fun w' : World => rnew_bad (w := w') c d hbad)
    clear hbad hgood HC HXS
    go_enter Try.func3, Try.ntmps3
    go_wp2_with fail
    refine haw.out.mono ?_
    rintro e w1 ⟨rfl, hb⟩
    have HB1 := Lib.hid hb
    clear hb
    go_wp2_with fail
    refine (HBN.out w1).mono ?_
    rintro e' w2 ⟨rfl, rfl⟩
    go_wp2_with fail
    refine (HRN.out w1).mono ?_
    rintro e' w2 ⟨rfl, rfl⟩
    go_wp2_with fail
    go_loopw [11] (fun ix wr => ix = .int .i64 0 ∧ Below w.heap.size w wr) (fun _ _ => 0)
    case atStart => exact ⟨rfl, HB1.out⟩
    case round =>
      obtain ⟨rfl, hbw⟩ := hrel
      have HBW := Lib.hid hbw
      clear hbw
      by_cases hlt : 0 < xs.length
      all_goals
        go_wp2
        go_ret
        exact ⟨rfl, HBW.out⟩
end Go.Proofs.Ytgmgofcclddkiaa
