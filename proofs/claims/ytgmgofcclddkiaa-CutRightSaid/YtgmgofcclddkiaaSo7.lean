/- A part of the sort of edges: partitionEqual: what it leaves and answers is what the plain twin says. -/
import Derived.Test.YtgmgofcclddkiaaSo2
import Derived.Sort.WalkC
import Derived.Deep.Cut
import Derived.Deep.CutBlock
import Derived.BigRegion
namespace Go.Proofs.Ytgmgofcclddkiaa
open Go.RowKit Go.Sort Go.Proofs Go.Shelf
set_option maxRecDepth 1000000 in
set_option maxHeartbeats 8000000 in
theorem parteq_t (w0 w : World) (blk off n cap a b pivot : Nat) (d : Array Edge) (S : SW w0 blk off n d w) (hap : a ≤ pivot) (hpb : pivot < b) (hb : b ≤ n) :
    Calls Try.prog 72 #[.slice (some ⟨blk, off, none⟩) n cap, .int .i64 a, .int .i64 b, .int .i64 pivot, ofV] w fun e w' =>
      e = .returned (.int .i64 (partitionEqual ltE d a b pivot).1) ∧ SW w0 blk off n (partitionEqual ltE d a b pivot).2 w' := by
  have mixed : Try.prog.follows .mixedOrders = true := by kernel_rfl
  have hn := S.small
  have S0 := Lib.hid S
  clear S
  go_enter Try.func72, Try.ntmps72
  go_wp2_with fail
  have q35ia : ((a : Int)).toNat = a := by omega
  have q35ib : 0 ≤ ((a : Int)) := by omega
  have q35ic : ((a : Int)) < (n : Int) := by omega
  have q35id : IntKind.i64.wrap ((a : Int)) = (a : Int) := by rw [IntKind.wrap_i64]; omega
  have q35ka : ((pivot : Int)).toNat = pivot := by omega
  have q35kb : 0 ≤ ((pivot : Int)) := by omega
  have q35kc : ((pivot : Int)) < (n : Int) := by omega
  have q35kd : IntKind.i64.wrap ((pivot : Int)) = (pivot : Int) := by rw [IntKind.wrap_i64]; omega
  obtain ⟨q35x, q35y, q351, q352, q353, q354, q355, q356, q357, q358, ⟨q35u, q359⟩, ⟨q35v, q3510⟩, ⟨q35w, q3511⟩, q35S⟩ := S0.out.swaps (a) (pivot) (by omega) (by omega)
  have S1 := Lib.hid q35S
  clear q35S S0
  go_wp2_with fail
  go_big_region
  clear q351 q352 q353 q354 q355 q356 q357 q358 q359 q3510 q3511 q35ia q35ib q35ic q35id q35ka q35kb q35kc q35kd
  generalize ((((w.setCell ⟨blk, off + a * 2, none⟩ (.int .i64 q35y.1)).setCell ⟨blk, off + a * 2 + 1, none⟩ (.int .i64 q35y.2)).setCell ⟨blk, off + pivot * 2, none⟩ (.int .i64 q35x.1)).setCell ⟨blk, off + pivot * 2 + 1, none⟩ (.int .i64 q35x.2)).drew = w1 at S1 ⊢
  go_wp2
  go_loopg [11, 12] (b - 1 + 1 - (a + 1)) (fun gm vi vj wr => ∃ (i j : Nat) (dk : Array Edge), vi = .int .i64 i ∧ vj = .int .i64 j ∧ a < i ∧ i ≤ j + 1 ∧ j < b ∧ j + 1 - i ≤ gm ∧ Hid (SW w0 blk off n dk wr) ∧
      Hid (partEqLoop ltE a i j dk = partEqLoop ltE a (a + 1) (b - 1) (swp d a pivot)))
  case atStart => exact ⟨a + 1, b - 1, swp d a pivot, by go_num, by go_num, by omega, by omega, by omega, Nat.le_refl _, S1, rfl⟩
  case round =>
    clear S1
    obtain ⟨i, j, dk, rfl, rfl, hai, hij, hjb, hgm, S1, AE⟩ := hrel
    go_upto_block 2 with fail
    go_cut [11] from 31 to 49 (fun v wc => ∃ s1 : Nat, v = .int .i64 s1 ∧ (i ≤ s1 ∧ s1 ≤ j + 1) ∧ Hid (SW w0 blk off n dk wc) ∧ Hid (s1 = scanUp (fun x => !ltE dk[a]! x) dk j (i)))
    case first =>
      go_wp2_with fail
      go_loopg [11] (j + 1 - i) (fun gm vi wl => ∃ x1 : Nat, vi = .int .i64 x1 ∧ i ≤ x1 ∧ x1 ≤ j + 1 ∧ j + 1 - x1 ≤ gm ∧ Hid (SW w0 blk off n dk wl) ∧ Hid (scanUp (fun x => !ltE dk[a]! x) dk j (x1) = scanUp (fun x => !ltE dk[a]! x) dk j (i)))
      case atStart => exact ⟨i, by first | rfl | go_num | (congr 1; omega), Nat.le_refl _, by omega, Nat.le_refl _, S1, rfl⟩
      case round =>
        clear S1
        obtain ⟨x1, rfl, hb1, hb2, hgm, SU, hsc⟩ := hrel
        by_cases hle : x1 ≤ j
        · have hgu : decide ((x1 : Int) ≤ (j : Int)) = true := decide_eq_true (by omega)
          cases hL : ltE dk[a]! dk[x1]! with
          | false =>
            have q30ia : ((a : Int)).toNat = a := by omega
            have q30ib : 0 ≤ ((a : Int)) := by omega
            have q30ic : ((a : Int)) < (n : Int) := by omega
            have q30id : IntKind.i64.wrap ((a : Int)) = (a : Int) := by rw [IntKind.wrap_i64]; omega
            have q30ka : ((x1 : Int)).toNat = x1 := by omega
            have q30kb : 0 ≤ ((x1 : Int)) := by omega
            have q30kc : ((x1 : Int)) < (n : Int) := by omega
            have q30kd : IntKind.i64.wrap ((x1 : Int)) = (x1 : Int) := by rw [IntKind.wrap_i64]; omega
            obtain ⟨q30x, q30y, q301, q302, q303, q304, q305, q306⟩ := SU.out.ask (a) (x1) (by omega) (by omega) hL
            have q30H := Lib.hid q305
            clear q305
            go_wp2_with fail
            go_quiet_grown ((go_at_call 48; exact q30H.out _ _))
            have SV := Lib.hid (SU.out.grown nq osq)
            clear q301 q302 q303 q304 q30H SU q30ia q30ib q30ic q30id q30ka q30kb q30kc q30kd
            generalize grow (wr.drewN nq) osq = wv at SV ⊢
            clear nq osq
            go_wp2
            go_roundg (j + 1 - (x1 + 1))
            case measure => omega
            case rel => exact ⟨x1 + 1, by first | rfl | go_num | (congr 1; omega), by omega, by omega, Nat.le_refl _, SV, (scanUp_go (fun x => !ltE dk[a]! x) dk j x1 hle (by simp [hL])).symm.trans hsc.out⟩
          | true =>
            have q31ia : ((a : Int)).toNat = a := by omega
            have q31ib : 0 ≤ ((a : Int)) := by omega
            have q31ic : ((a : Int)) < (n : Int) := by omega
            have q31id : IntKind.i64.wrap ((a : Int)) = (a : Int) := by rw [IntKind.wrap_i64]; omega
            have q31ka : ((x1 : Int)).toNat = x1 := by omega
            have q31kb : 0 ≤ ((x1 : Int)) := by omega
            have q31kc : ((x1 : Int)) < (n : Int) := by omega
            have q31kd : IntKind.i64.wrap ((x1 : Int)) = (x1 : Int) := by rw [IntKind.wrap_i64]; omega
            obtain ⟨q31x, q31y, q311, q312, q313, q314, q315, q316⟩ := SU.out.ask (a) (x1) (by omega) (by omega) hL
            have q31H := Lib.hid q315
            clear q315
            go_wp2_with fail
            go_quiet_grown ((go_at_call 48; exact q31H.out _ _))
            have SV := Lib.hid (SU.out.grown nq osq)
            clear q311 q312 q313 q314 q31H SU q31ia q31ib q31ic q31id q31ka q31kb q31kc q31kd
            generalize grow (wr.drewN nq) osq = wv at SV ⊢
            clear nq osq
            go_wp2
            go_meet
            case rel => exact ⟨x1, rfl, ⟨hb1, hb2⟩, SV, (scanUp_end (fun x => !ltE dk[a]! x) dk j x1 (Or.inr (by simp [hL]))).symm.trans hsc.out⟩
        · have hgu : decide ((x1 : Int) ≤ (j : Int)) = false := decide_eq_false (by omega)
          have SV := Lib.hid SU.out.drew
          clear SU
          go_wp2_with fail
          go_big_region
          generalize wr.drew = wv at SV ⊢
          go_wp2
          go_meet
          case rel => exact ⟨x1, rfl, ⟨hb1, hb2⟩, SV, (scanUp_end (fun x => !ltE dk[a]! x) dk j x1 (Or.inl hle)).symm.trans hsc.out⟩
    case rest =>
      clear S1
      obtain ⟨s1, rfl, ⟨s1a, s1b⟩, S2, s1e⟩ := hcut
      go_upto_block 4 with fail
      go_cut [12] from 50 to 67 (fun v wc => ∃ s2 : Nat, v = .int .i64 s2 ∧ (s2 ≤ j ∧ s1 ≤ s2 + 1) ∧ Hid (SW w0 blk off n dk wc) ∧ Hid (s2 = scanDown (fun x => ltE dk[a]! x) dk s1 (j)))
      case first =>
        go_wp2_with fail
        go_loopg [12] (j) (fun gm vi wl => ∃ x2 : Nat, vi = .int .i64 x2 ∧ x2 ≤ j ∧ s1 ≤ x2 + 1 ∧ x2 ≤ gm ∧ Hid (SW w0 blk off n dk wl) ∧ Hid (scanDown (fun x => ltE dk[a]! x) dk s1 (x2) = scanDown (fun x => ltE dk[a]! x) dk s1 (j)))
        case atStart => exact ⟨j, by first | rfl | go_num | (congr 1; omega), Nat.le_refl _, by omega, Nat.le_refl _, S2, rfl⟩
        case round =>
          clear S2
          obtain ⟨x2, rfl, hb1, hb2, hgm, SU, hsc⟩ := hrel
          by_cases hle : s1 ≤ x2
          · have hgu : decide ((s1 : Int) ≤ (x2 : Int)) = true := decide_eq_true (by omega)
            cases hL : ltE dk[a]! dk[x2]! with
            | true =>
              have q32ia : ((a : Int)).toNat = a := by omega
              have q32ib : 0 ≤ ((a : Int)) := by omega
              have q32ic : ((a : Int)) < (n : Int) := by omega
              have q32id : IntKind.i64.wrap ((a : Int)) = (a : Int) := by rw [IntKind.wrap_i64]; omega
              have q32ka : ((x2 : Int)).toNat = x2 := by omega
              have q32kb : 0 ≤ ((x2 : Int)) := by omega
              have q32kc : ((x2 : Int)) < (n : Int) := by omega
              have q32kd : IntKind.i64.wrap ((x2 : Int)) = (x2 : Int) := by rw [IntKind.wrap_i64]; omega
              obtain ⟨q32x, q32y, q321, q322, q323, q324, q325, q326⟩ := SU.out.ask (a) (x2) (by omega) (by omega) hL
              have q32H := Lib.hid q325
              clear q325
              go_wp2_with fail
              go_quiet_grown ((go_at_call 48; exact q32H.out _ _))
              have SV := Lib.hid (SU.out.grown nq osq)
              clear q321 q322 q323 q324 q32H SU q32ia q32ib q32ic q32id q32ka q32kb q32kc q32kd
              generalize grow (wr.drewN nq) osq = wv at SV ⊢
              clear nq osq
              go_wp2
              go_roundg ((x2 - 1))
              case measure => omega
              case rel => exact ⟨x2 - 1, by first | rfl | go_num | (congr 1; omega), by omega, by omega, Nat.le_refl _, SV, (scanDown_go (fun x => ltE dk[a]! x) dk s1 x2 hle (by omega) (by simp [hL])).symm.trans hsc.out⟩
            | false =>
              have q33ia : ((a : Int)).toNat = a := by omega
              have q33ib : 0 ≤ ((a : Int)) := by omega
              have q33ic : ((a : Int)) < (n : Int) := by omega
              have q33id : IntKind.i64.wrap ((a : Int)) = (a : Int) := by rw [IntKind.wrap_i64]; omega
              have q33ka : ((x2 : Int)).toNat = x2 := by omega
              have q33kb : 0 ≤ ((x2 : Int)) := by omega
              have q33kc : ((x2 : Int)) < (n : Int) := by omega
              have q33kd : IntKind.i64.wrap ((x2 : Int)) = (x2 : Int) := by rw [IntKind.wrap_i64]; omega
              obtain ⟨q33x, q33y, q331, q332, q333, q334, q335, q336⟩ := SU.out.ask (a) (x2) (by omega) (by omega) hL
              have q33H := Lib.hid q335
              clear q335
              go_wp2_with fail
              go_quiet_grown ((go_at_call 48; exact q33H.out _ _))
              have SV := Lib.hid (SU.out.grown nq osq)
              clear q331 q332 q333 q334 q33H SU q33ia q33ib q33ic q33id q33ka q33kb q33kc q33kd
              generalize grow (wr.drewN nq) osq = wv at SV ⊢
              clear nq osq
              go_wp2
              go_meet
              case rel => exact ⟨x2, rfl, ⟨hb1, hb2⟩, SV, (scanDown_end (fun x => ltE dk[a]! x) dk s1 x2 (Or.inr (by simp [hL]))).symm.trans hsc.out⟩
          · have hgu : decide ((s1 : Int) ≤ (x2 : Int)) = false := decide_eq_false (by omega)
            have SV := Lib.hid SU.out.drew
            clear SU
            go_wp2_with fail
            go_big_region
            generalize wr.drew = wv at SV ⊢
            go_wp2
            go_meet
            case rel => exact ⟨x2, rfl, ⟨hb1, hb2⟩, SV, (scanDown_end (fun x => ltE dk[a]! x) dk s1 x2 (Or.inl hle)).symm.trans hsc.out⟩
      case rest =>
        clear S2
        obtain ⟨s2, rfl, ⟨s2a, s2b⟩, S3, s2e⟩ := hcut
        by_cases hgt : s2 < s1
        · have hgtz : (s2 : Int) < (s1 : Int) := by omega
          have e : Hid (partitionEqual ltE d a b pivot = (s1, dk)) := by show _ = _; unfold partitionEqual; rw [← AE.out]; exact partEq_break ltE a i j dk s1e.out s2e.out hgt
          clear AE s1e s2e
          go_wp2
          rw [e.out]
          go_ret
          exact ⟨rfl, S3.out⟩
        · have hgtz : ¬ (s2 : Int) < (s1 : Int) := by omega
          have hlt3 := scans_lt ltE a i j dk (by omega) s1e.out s2e.out (by omega)
          have AE2 : Hid (partEqLoop ltE a (s1 + 1) (s2 - 1) (swp dk s1 s2) = partEqLoop ltE a (a + 1) (b - 1) (swp d a pivot)) := by show _ = _; rw [← AE.out]; exact (partEq_go ltE a i j dk s1e.out s2e.out hgt).symm
          clear AE s1e s2e
          go_wp2_with fail
          have q34ia : ((s1 : Int)).toNat = s1 := by omega
          have q34ib : 0 ≤ ((s1 : Int)) := by omega
          have q34ic : ((s1 : Int)) < (n : Int) := by omega
          have q34id : IntKind.i64.wrap ((s1 : Int)) = (s1 : Int) := by rw [IntKind.wrap_i64]; omega
          have q34ka : ((s2 : Int)).toNat = s2 := by omega
          have q34kb : 0 ≤ ((s2 : Int)) := by omega
          have q34kc : ((s2 : Int)) < (n : Int) := by omega
          have q34kd : IntKind.i64.wrap ((s2 : Int)) = (s2 : Int) := by rw [IntKind.wrap_i64]; omega
          obtain ⟨q34x, q34y, q341, q342, q343, q344, q345, q346, q347, q348, ⟨q34u, q349⟩, ⟨q34v, q3410⟩, ⟨q34w, q3411⟩, q34S⟩ := S3.out.swaps (s1) (s2) (by omega) (by omega)
          have S4 := Lib.hid q34S
          clear q34S S3
          go_wp2_with fail
          go_big_region
          clear q341 q342 q343 q344 q345 q346 q347 q348 q349 q3410 q3411 q34ia q34ib q34ic q34id q34ka q34kb q34kc q34kd
          generalize ((((wc.setCell ⟨blk, off + s1 * 2, none⟩ (.int .i64 q34y.1)).setCell ⟨blk, off + s1 * 2 + 1, none⟩ (.int .i64 q34y.2)).setCell ⟨blk, off + s2 * 2, none⟩ (.int .i64 q34x.1)).setCell ⟨blk, off + s2 * 2 + 1, none⟩ (.int .i64 q34x.2)).drew = w4 at S4 ⊢
          go_wp2
          go_roundg (s2 - 1 + 1 - (s1 + 1))
          case measure => omega
          case rel => exact ⟨s1 + 1, s2 - 1, swp dk s1 s2, by first | rfl | go_num | (congr 1; omega), by first | rfl | go_num | (congr 1; omega), by omega, by omega, by omega, Nat.le_refl _, S4, AE2⟩

end Go.Proofs.Ytgmgofcclddkiaa
