/- The sort of edges, pdqsort: what lies between a and b is sorted behind it, a permutation of what lay there. -/
import Derived.Test.YtgmgofcclddkiaaSo8
import Derived.Test.YtgmgofcclddkiaaSo3
import Derived.Test.YtgmgofcclddkiaaSo4
import Derived.Test.YtgmgofcclddkiaaSo5
import Derived.Test.YtgmgofcclddkiaaSo6
import Derived.Sort.AssemblyPlain
import Derived.Sort.LotD3
import Derived.Sort.Walk13a
import Derived.BigRegion
namespace Go.Proofs.Ytgmgofcclddkiaa
open Go.RowKit Go.Sort Go.Proofs Go.Shelf
/-- what the sort leaves between a and b -/
def Sorts (w0 : World) (blk off n a b : Nat) (d : Array Edge) (W : World) : Prop := ∃ d', PermIn a b d d' ∧ SortedIn ltE a b d' ∧ SW w0 blk off n d' W
/-- to sort dk between a' and b' is to sort d between a and b -/
def Ends (a b : Nat) (d : Array Edge) (a' b' : Nat) (dk : Array Edge) : Prop := ∀ R, PermIn a' b' dk R → SortedIn ltE a' b' R → PermIn a b d R ∧ SortedIn ltE a b R

set_option maxRecDepth 1000000 in
set_option maxHeartbeats 32000000 in
theorem pdq_t (w0 : World) (blk off n cap : Nat) : ∀ (N a b limit : Nat) (d : Array Edge) (w : World), b - a < N → SW w0 blk off n d w → a ≤ b → b ≤ n → limit < 4611686018427387904 → Below ltE a b d →
    Calls Try.prog 53 #[.slice (some ⟨blk, off, none⟩) n cap, .int .i64 a, .int .i64 b, .int .i64 limit, ofV] w fun e w' => e = .returned (.tuple #[]) ∧ Sorts w0 blk off n a b d w' := by
  have mixed : Try.prog.follows .mixedOrders = true := by kernel_rfl
  have e53 : ∀ args w, (callFunc 53 args).run Try.prog w = .ok (.enter 53 args) w := enters_of Try.func53 (by kernel_rfl) rfl
  intro N
  induction N with
  | zero => intro _ _ _ _ _ h; exact absurd h (Nat.not_lt_zero _)
  | succ N ih =>
    intro a b limit d w hN S hab hb hlimit hBel0
    have hn := S.small
    have S0 := Lib.hid S
    have B0 := Lib.hid hBel0
    have IH := Lib.hid ih
    clear S hBel0 ih
    go_enter Try.func53, Try.ntmps53
    go_wp2
    go_loopg [1, 2, 3, 10, 11] (b - a) (fun kx s1 s2 s3 s8 s9 wr => ∃ (a' b' lim : Nat) (wb wp : Bool) (dk : Array Edge), s1 = .int .i64 a' ∧ s2 = .int .i64 b' ∧ s3 = .int .i64 lim ∧ s8 = .bool wb ∧ s9 = .bool wp ∧
      a' ≤ b' ∧ b' ≤ n ∧ b' - a' ≤ kx ∧ kx ≤ b - a ∧ lim ≤ limit ∧ Below ltE a' b' dk ∧ SW w0 blk off n dk wr ∧ Ends a b d a' b' dk)
    case atStart => exact ⟨a, b, limit, true, true, d, rfl, rfl, rfl, rfl, rfl, hab, hb, Nat.le_refl _, Nat.le_refl _, Nat.le_refl _, B0.out, S0.out, fun R h1 h2 => ⟨h1, h2⟩⟩
    case round =>
      clear S0 B0
      obtain ⟨a', b', lim, wb, wp, dk, rfl, rfl, rfl, rfl, rfl, hab', hb', hkx, hkN, hlim, hB, hS, hE⟩ := hrel
      have BK := Lib.hid hB
      have S1 := Lib.hid hS
      have HE := Lib.hid hE
      clear hB hS hE
      by_cases h12 : b' - a' ≤ 12
      · have h12z : (b' : Int) - (a' : Int) ≤ 12 := by omega
        have hc := Lib.hid (insert_t w0 wr blk off n cap a' b' dk S1.out hab' hb')
        have hh := Lib.hid (insertionSort_holds swoE dk a' b' hab' (by rw [S1.out.size]; exact hb'))
        go_wp2_with (go_at_call 66; refine hc.out.mono ?_; rintro e w1 ⟨rfl, h⟩)
        (try simp only [Exit.inBlock, Exit.then]); refine bodyPost_ret (results_none rfl _ _ _) rfl ?_
        obtain ⟨q1, q2⟩ := HE.out _ hh.out.1 hh.out.2
        exact ⟨rfl, _, q1, q2, h⟩
      · have h12z : ¬ ((b' : Int) - (a' : Int) ≤ 12) := by omega
        by_cases hl0 : lim = 0
        · subst hl0
          have hc := Lib.hid (heap_t w0 wr blk off n cap a' b' dk S1.out hab' hb')
          have hh := Lib.hid (heapSort_holds (lt := ltE) swoE dk a' b' hab' (by rw [S1.out.size]; exact hb'))
          go_wp2_with (go_at_call 67; refine hc.out.mono ?_; rintro e w1 ⟨rfl, h⟩)
          (try simp only [Exit.inBlock, Exit.then]); refine bodyPost_ret (results_none rfl _ _ _) rfl ?_
          obtain ⟨q1, q2⟩ := HE.out _ hh.out.1 hh.out.2
          exact ⟨rfl, _, q1, q2, h⟩
        · have hl0z : ¬ ((lim : Int) = 0) := by omega
          go_upto_if 39 with fail
          go_cut [3] from 21 (fun s3 wc => ∃ (lim' : Nat) (d1 : Array Edge), s3 = .int .i64 lim' ∧ lim' ≤ limit ∧ PermIn a' b' dk d1 ∧ SW w0 blk off n d1 wc)
          case first =>
            cases wb
            · have hc := Lib.hid (break_t w0 wr blk off n cap a' b' dk S1.out hab' hb')
              have hh := Lib.hid (breakPatterns_holds dk a' b' hab' (by rw [S1.out.size]; exact hb'))
              clear S1
              go_wp2_with (go_at_call 68; refine hc.out.mono ?_; rintro e w1 ⟨rfl, h⟩)
              have S2 := Lib.hid h
              clear h hc
              go_meet
              case rel =>
                refine ⟨lim - 1, _, ?_, by omega, hh.out, S2.out⟩
                congr 1; omega
            · go_wp2_with fail
              go_meet
              case rel => exact ⟨lim, dk, rfl, hlim, permIn_refl _ _ _, S1.out⟩
          case rest =>
            clear S1
            obtain ⟨lim', d1, rfl, hlim', hP1, hS1⟩ := hcut
            have P1 := Lib.hid hP1
            have S1 := Lib.hid hS1
            clear hP1 hS1
            have hpv := choosePivot_holds ltE d1 a' b' (by omega)
            have hc17 := pivot_t w0 wc blk off n cap a' b' d1 S1.out (by omega) hb'
            generalize (choosePivot ltE d1 a' b').1 = pv0 at hpv hc17
            generalize hintCode (choosePivot ltE d1 a' b').2 = hc0 at hc17
            obtain ⟨hpv1, hpv2⟩ := hpv
            have HC17 := Lib.hid hc17
            clear S1 hc17
            go_upto_if 56 with (go_at_call 69; refine HC17.out.mono ?_; rintro e w2 ⟨rfl, h⟩)
            have S2 := Lib.hid h
            clear h HC17
            go_cut [13, 14] from 21 (fun s13 s14 wc => ∃ (pv : Nat) (hc : Int) (d2 : Array Edge), s13 = .int .i64 pv ∧ s14 = .int .i64 hc ∧ a' ≤ pv ∧ pv < b' ∧ PermIn a' b' dk d2 ∧ SW w0 blk off n d2 wc)
            case first =>
              by_cases hh : hc0 = 2
              · subst hh
                have hc := Lib.hid (reverse_t w0 w2 blk off n cap a' b' d1 S2.out hab' hb')
                have hr := Lib.hid (reverseRange_holds d1 a' b' hab' (by rw [S2.out.size]; exact hb'))
                clear S2
                go_wp2_with (go_at_call 70; refine hc.out.mono ?_; rintro e w3 ⟨rfl, h⟩)
                have S3 := Lib.hid h
                clear h hc
                go_meet
                case rel =>
                  refine ⟨b' - 1 - (pv0 - a'), 1, _, ?_, rfl, by omega, by omega, permIn_trans _ _ _ _ _ P1.out hr.out, S3.out⟩
                  congr 1; omega
              · go_wp2_with fail
                go_meet
                case rel => exact ⟨pv0, hc0, d1, rfl, rfl, hpv1, hpv2, P1.out, S2.out⟩
            case rest =>
              clear S2
              obtain ⟨pv, hc, d2, rfl, rfl, hp1, hp2, hP2, hS2⟩ := hcut
              have P2 := Lib.hid hP2
              have S2 := Lib.hid hS2
              clear hP2 hS2 hpv1 hpv2
              go_upto_region 15 with fail
              go_cut [14, 75] from 21 (fun s14 s75 wx => ∃ bb : Bool, s14 = .int .i64 hc ∧ s75 = .bool bb ∧ wx = wc)
              case first =>
                by_cases hh : hc = 1
                · subst hh
                  cases wb <;> cases wp <;> (go_wp2_with fail; go_meet; case rel => exact ⟨_, rfl, rfl, rfl⟩)
                · have hhb : (hc == 1) = false := beq_eq_false_iff_ne.2 hh
                  cases wb <;> cases wp <;> (go_wp2_with fail; go_meet; case rel => exact ⟨_, rfl, rfl, rfl⟩)
              case rest =>
                obtain ⟨bb, rfl, rfl, rfl⟩ := hcut
                go_upto_if 75 with fail
                go_cut [] from 21 (fun wx => ∃ d3 : Array Edge, PermIn a' b' dk d3 ∧ SW w0 blk off n d3 wx)
                case first =>
                  cases bb
                  · go_wp2_with fail
                    go_meet
                    case rel => exact ⟨d2, P2.out, S2.out⟩
                  · have hc19 := partial_t w0 wc blk off n cap a' b' d2 S2.out (by omega) hb'
                    have hh := Lib.hid (partialInsertionSort_holds (lt := ltE) swoE d2 a' b' (by omega) (by rw [S2.out.size]; exact hb') (BK.out.perm (by rw [P2.out.1.symm, S2.out.size]; exact hb') P2.out))
                    obtain ⟨d3, hd3⟩ : ∃ d3, d3 = (partialInsertionSort ltE d2 a' b').1 := ⟨_, rfl⟩
                    obtain ⟨b3, hb3⟩ : ∃ b3, b3 = (partialInsertionSort ltE d2 a' b').2 := ⟨_, rfl⟩
                    rw [← hd3, ← hb3] at hc19 hh
                    have HC19 := Lib.hid hc19
                    clear hc19 hd3 hb3 S2
                    cases b3
                    · go_wp2_with (go_at_call 71; refine HC19.out.mono ?_; rintro e w4 ⟨rfl, h⟩)
                      have S3 := Lib.hid h
                      clear h
                      go_meet
                      case rel => exact ⟨d3, permIn_trans _ _ _ _ _ P2.out hh.out.1, S3.out⟩
                    · go_wp2_with (go_at_call 71; refine HC19.out.mono ?_; rintro e w4 ⟨rfl, h⟩)
                      (try simp only [Exit.inBlock, Exit.then]); refine bodyPost_ret (results_none rfl _ _ _) rfl ?_
                      obtain ⟨q1, q2⟩ := HE.out _ (permIn_trans _ _ _ _ _ P2.out hh.out.1) (hh.out.2 (by first | rfl | trivial))
                      exact ⟨rfl, _, q1, q2, h⟩
                case rest =>
                  clear P2 S2
                  obtain ⟨d3, hP3, hS3⟩ := hcut
                  have P3 := Lib.hid hP3
                  have S5 := Lib.hid hS3
                  have B3 := Lib.hid (BK.out.perm (by rw [P3.out.1.symm, S5.out.size]; exact hb') P3.out)
                  clear hP3 hS3 BK
                  have ih := IH.out
                  rcases Nat.eq_zero_or_pos a' with ha0 | ha0
                  · have ha0z : decide ((a' : Int) > 0) = false := decide_eq_false (by omega)
                    have hn0d : decide (0 < a') = false := decide_eq_false (by omega)
                    have hn0z : decide ((0 : Int) < (a' : Int)) = false := decide_eq_false (by omega)
                    have S6 := Lib.hid S5.out.drew
                    have IH2 := Lib.hid ih
                    clear ih S5 ha0
                    go_wp2_with fail
                    go_big_region
                    generalize wc.drew = w6 at S6 ⊢
                    have ih := IH2.out
                    obtain ⟨mid, ap, d4, hx⟩ : ∃ mid ap d4, partition ltE d3 a' b' pv = (mid, ap, d4) := ⟨(partition ltE d3 a' b' pv).1, (partition ltE d3 a' b' pv).2.1, (partition ltE d3 a' b' pv).2.2, rfl⟩
                    have hpt := round_part swoE (partition_holds ltE) hp1 hp2 (show b' ≤ d3.size by rw [S6.out.size]; exact hb') B3.out hx
                    have hc22 := part_t w0 w6 blk off n cap a' b' pv d3 S6.out hp1 hp2 hb'
                    rw [hx] at hc22
                    clear hx
                    obtain ⟨r1, r2, r3, r4, r5, r6, r7⟩ := hpt
                    have HC22 := Lib.hid hc22
                    have R4 := Lib.hid r4
                    have R5 := Lib.hid r5
                    have R6 := Lib.hid r6
                    have R7 := Lib.hid r7
                    clear hc22 S6 r3 r4 r5 r6 r7
                    go_upto_if 125 with (go_at_call 73; refine HC22.out.mono ?_; rintro e w7 ⟨rfl, h⟩)
                    have S7 := Lib.hid h
                    clear h HC22
                    by_cases h4 : mid - a' < b' - mid
                    · have h4z : (mid : Int) - (a' : Int) < (b' : Int) - (mid : Int) := by omega
                      have hih := Lib.hid (ih a' mid lim' d4 w7 (by omega) S7.out (by omega) (by omega) (by omega) R4.out)
                      clear S7
                      go_wp2_with (go_at_call 53; refine hih.out.mono ?_; rintro e w8 ⟨rfl, h⟩)
                      have H8 := Lib.hid h
                      clear h hih
                      go_roundg (b' - (mid + 1))
                      case measure => omega
                      case rel =>
                        obtain ⟨dL, pL, sL, SL⟩ := H8.out
                        obtain ⟨q1, q2⟩ := R6.out dL pL sL
                        exact ⟨mid + 1, b', lim', _, ap, dL, by first | rfl | go_num | (congr 1; omega), rfl, rfl, rfl, rfl, by omega, hb', Nat.le_refl _, by omega, by omega, q1, SL, fun R h1 h2 => HE.out R (permIn_trans _ _ _ _ _ P3.out (q2 R h1 h2).1) (q2 R h1 h2).2⟩
                    · have h4z : ¬ ((mid : Int) - (a' : Int) < (b' : Int) - (mid : Int)) := by omega
                      have hih0 := ih (mid + 1) b' lim' d4 w7 (by omega) S7.out (by omega) hb' (by omega) R5.out
                      rw [show ((mid + 1 : Nat) : Int) = (mid : Int) + 1 by omega] at hih0
                      have hih := Lib.hid hih0
                      clear S7 hih0
                      go_wp2_with (go_at_call 53; refine hih.out.mono ?_; rintro e w8 ⟨rfl, h⟩)
                      have H8 := Lib.hid h
                      clear h hih
                      go_roundg (mid - a')
                      case measure => omega
                      case rel =>
                        obtain ⟨dL, pL, sL, SL⟩ := H8.out
                        obtain ⟨q1, q2⟩ := R7.out dL pL sL
                        exact ⟨a', mid, lim', _, ap, dL, rfl, rfl, rfl, rfl, rfl, r1, by omega, Nat.le_refl _, by omega, by omega, q1, SL, fun R h1 h2 => HE.out R (permIn_trans _ _ _ _ _ P3.out (q2 R h1 h2).1) (q2 R h1 h2).2⟩
                  · obtain ⟨ap0, hap⟩ : ∃ q, q + 1 = a' := ⟨a' - 1, by omega⟩
                    have IH2 := Lib.hid ih
                    clear ih
                    have ha0d : decide ((a' : Int) > 0) = true := decide_eq_true (by omega)
                    have ha0n : decide (0 < a') = true := decide_eq_true ha0
                    have e1 : (a' : Int) - 1 = (ap0 : Int) := by omega
                    cases hL : ltE d3[a' - 1]! d3[pv]! with
                    | true =>
                      have q49ia : ((ap0 : Int)).toNat = a' - 1 := by omega
                      have q49ib : 0 ≤ ((ap0 : Int)) := by omega
                      have q49ic : ((ap0 : Int)) < (n : Int) := by omega
                      have q49id : IntKind.i64.wrap ((ap0 : Int)) = (ap0 : Int) := by rw [IntKind.wrap_i64]; omega
                      have q49ka : ((pv : Int)).toNat = pv := by omega
                      have q49kb : 0 ≤ ((pv : Int)) := by omega
                      have q49kc : ((pv : Int)) < (n : Int) := by omega
                      have q49kd : IntKind.i64.wrap ((pv : Int)) = (pv : Int) := by rw [IntKind.wrap_i64]; omega
                      obtain ⟨q49x, q49y, q491, q492, q493, q494, q495, q496⟩ := S5.out.ask (a' - 1) (pv) (by omega) (by omega) hL
                      have q49H := Lib.hid q495
                      clear q495
                      go_wp2_with fail
                      go_quiet_grown ((go_at_call 48; exact q49H.out _ _))
                      have S6 := Lib.hid (S5.out.grown nq osq)
                      clear q491 q492 q493 q494 q49H S5 q49ia q49ib q49ic q49id q49ka q49kb q49kc q49kd
                      generalize grow (wc.drewN nq) osq = w6 at S6 ⊢
                      clear nq osq
                      have ih := IH2.out
                      clear ha0d e1
                      obtain ⟨mid, ap, d4, hx⟩ : ∃ mid ap d4, partition ltE d3 a' b' pv = (mid, ap, d4) := ⟨(partition ltE d3 a' b' pv).1, (partition ltE d3 a' b' pv).2.1, (partition ltE d3 a' b' pv).2.2, rfl⟩
                      have hpt := round_part swoE (partition_holds ltE) hp1 hp2 (show b' ≤ d3.size by rw [S6.out.size]; exact hb') B3.out hx
                      have hc22 := part_t w0 w6 blk off n cap a' b' pv d3 S6.out hp1 hp2 hb'
                      rw [hx] at hc22
                      clear hx
                      obtain ⟨r1, r2, r3, r4, r5, r6, r7⟩ := hpt
                      have HC22 := Lib.hid hc22
                      have R4 := Lib.hid r4
                      have R5 := Lib.hid r5
                      have R6 := Lib.hid r6
                      have R7 := Lib.hid r7
                      clear hc22 S6 r3 r4 r5 r6 r7
                      go_upto_if 125 with (go_at_call 73; refine HC22.out.mono ?_; rintro e w7 ⟨rfl, h⟩)
                      have S7 := Lib.hid h
                      clear h HC22
                      by_cases h4 : mid - a' < b' - mid
                      · have h4z : (mid : Int) - (a' : Int) < (b' : Int) - (mid : Int) := by omega
                        have hih := Lib.hid (ih a' mid lim' d4 w7 (by omega) S7.out (by omega) (by omega) (by omega) R4.out)
                        clear S7
                        go_wp2_with (go_at_call 53; refine hih.out.mono ?_; rintro e w8 ⟨rfl, h⟩)
                        have H8 := Lib.hid h
                        clear h hih
                        go_roundg (b' - (mid + 1))
                        case measure => omega
                        case rel =>
                          obtain ⟨dL, pL, sL, SL⟩ := H8.out
                          obtain ⟨q1, q2⟩ := R6.out dL pL sL
                          exact ⟨mid + 1, b', lim', _, ap, dL, by first | rfl | go_num | (congr 1; omega), rfl, rfl, rfl, rfl, by omega, hb', Nat.le_refl _, by omega, by omega, q1, SL, fun R h1 h2 => HE.out R (permIn_trans _ _ _ _ _ P3.out (q2 R h1 h2).1) (q2 R h1 h2).2⟩
                      · have h4z : ¬ ((mid : Int) - (a' : Int) < (b' : Int) - (mid : Int)) := by omega
                        have hih0 := ih (mid + 1) b' lim' d4 w7 (by omega) S7.out (by omega) hb' (by omega) R5.out
                        rw [show ((mid + 1 : Nat) : Int) = (mid : Int) + 1 by omega] at hih0
                        have hih := Lib.hid hih0
                        clear S7 hih0
                        go_wp2_with (go_at_call 53; refine hih.out.mono ?_; rintro e w8 ⟨rfl, h⟩)
                        have H8 := Lib.hid h
                        clear h hih
                        go_roundg (mid - a')
                        case measure => omega
                        case rel =>
                          obtain ⟨dL, pL, sL, SL⟩ := H8.out
                          obtain ⟨q1, q2⟩ := R7.out dL pL sL
                          exact ⟨a', mid, lim', _, ap, dL, rfl, rfl, rfl, rfl, rfl, r1, by omega, Nat.le_refl _, by omega, by omega, q1, SL, fun R h1 h2 => HE.out R (permIn_trans _ _ _ _ _ P3.out (q2 R h1 h2).1) (q2 R h1 h2).2⟩
                    | false =>
                      have q50ia : ((ap0 : Int)).toNat = a' - 1 := by omega
                      have q50ib : 0 ≤ ((ap0 : Int)) := by omega
                      have q50ic : ((ap0 : Int)) < (n : Int) := by omega
                      have q50id : IntKind.i64.wrap ((ap0 : Int)) = (ap0 : Int) := by rw [IntKind.wrap_i64]; omega
                      have q50ka : ((pv : Int)).toNat = pv := by omega
                      have q50kb : 0 ≤ ((pv : Int)) := by omega
                      have q50kc : ((pv : Int)) < (n : Int) := by omega
                      have q50kd : IntKind.i64.wrap ((pv : Int)) = (pv : Int) := by rw [IntKind.wrap_i64]; omega
                      obtain ⟨q50x, q50y, q501, q502, q503, q504, q505, q506⟩ := S5.out.ask (a' - 1) (pv) (by omega) (by omega) hL
                      have q50H := Lib.hid q505
                      clear q505
                      go_wp2_with fail
                      go_quiet_grown ((go_at_call 48; exact q50H.out _ _))
                      have S6 := Lib.hid (S5.out.grown nq osq)
                      clear q501 q502 q503 q504 q50H S5 q50ia q50ib q50ic q50id q50ka q50kb q50kc q50kd
                      generalize grow (wc.drewN nq) osq = w6 at S6 ⊢
                      clear nq osq
                      obtain ⟨mid, d4, hx⟩ : ∃ mid d4, partitionEqual ltE d3 a' b' pv = (mid, d4) := ⟨(partitionEqual ltE d3 a' b' pv).1, (partitionEqual ltE d3 a' b' pv).2, rfl⟩
                      have hpe := round_eq swoE (partitionEqual_holds ltE) ha0 hp1 hp2 (show b' ≤ d3.size by rw [S6.out.size]; exact hb') B3.out hL hx
                      have hc21 := parteq_t w0 w6 blk off n cap a' b' pv d3 S6.out hp1 hp2 hb'
                      rw [hx] at hc21
                      clear hx
                      obtain ⟨r1, r2, r3, r4, r5⟩ := hpe
                      have HC21 := Lib.hid hc21
                      have R4 := Lib.hid r4
                      have R5 := Lib.hid r5
                      clear hc21 S6 r3 r4 r5 ha0d e1
                      go_wp2_with (go_at_call 72; refine HC21.out.mono ?_; rintro e w7 ⟨rfl, h⟩)
                      have S7 := Lib.hid h
                      clear h HC21
                      go_roundg (b' - mid)
                      case measure => omega
                      case rel => exact ⟨mid, b', lim', wb, wp, d4, rfl, rfl, rfl, rfl, rfl, r2, hb', Nat.le_refl _, by omega, hlim', R4.out, S7.out, fun R h1 h2 => HE.out R (permIn_trans _ _ _ _ _ P3.out (R5.out R h1 h2).1) (R5.out R h1 h2).2⟩

end Go.Proofs.Ytgmgofcclddkiaa
