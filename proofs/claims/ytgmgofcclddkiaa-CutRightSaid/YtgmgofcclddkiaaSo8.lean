/- A part of the sort of edges: partition: what it leaves and answers is what the plain twin says. -/
import Derived.Test.YtgmgofcclddkiaaSo7
import Derived.Sort.WalkC4
import Derived.BigRegion
namespace Go.Proofs.Ytgmgofcclddkiaa
open Go.RowKit Go.Sort Go.Proofs Go.Shelf
set_option maxRecDepth 1000000 in
set_option maxHeartbeats 8000000 in
theorem part_t (w0 w : World) (blk off n cap a b pivot : Nat) (d : Array Edge) (S : SW w0 blk off n d w) (hap : a ≤ pivot) (hpb : pivot < b) (hb : b ≤ n) :
    Calls Try.prog 73 #[.slice (some ⟨blk, off, none⟩) n cap, .int .i64 a, .int .i64 b, .int .i64 pivot, ofV] w fun e w' =>
      e = .returned (.tuple #[.int .i64 (partition ltE d a b pivot).1, .bool (partition ltE d a b pivot).2.1]) ∧ SW w0 blk off n (partition ltE d a b pivot).2.2 w' := by
  have mixed : Try.prog.follows .mixedOrders = true := by kernel_rfl
  have hn := S.small
  have S0 := Lib.hid S
  clear S
  obtain ⟨jb, hjb⟩ : ∃ jb, jb = b - 1 := ⟨_, rfl⟩
  have HJ := Lib.hid hjb
  have hjb1 : jb + 1 ≤ b ∧ b ≤ jb + 1 := by omega
  clear hjb
  go_enter Try.func73, Try.ntmps73
  go_wp2_with fail
  have q48ia : ((a : Int)).toNat = a := by omega
  have q48ib : 0 ≤ ((a : Int)) := by omega
  have q48ic : ((a : Int)) < (n : Int) := by omega
  have q48id : IntKind.i64.wrap ((a : Int)) = (a : Int) := by rw [IntKind.wrap_i64]; omega
  have q48ka : ((pivot : Int)).toNat = pivot := by omega
  have q48kb : 0 ≤ ((pivot : Int)) := by omega
  have q48kc : ((pivot : Int)) < (n : Int) := by omega
  have q48kd : IntKind.i64.wrap ((pivot : Int)) = (pivot : Int) := by rw [IntKind.wrap_i64]; omega
  obtain ⟨q48x, q48y, q481, q482, q483, q484, q485, q486, q487, q488, ⟨q48u, q489⟩, ⟨q48v, q4810⟩, ⟨q48w, q4811⟩, q48S⟩ := S0.out.swaps (a) (pivot) (by omega) (by omega)
  have S1 := Lib.hid q48S
  clear q48S S0
  go_wp2_with fail
  go_big_region
  clear q481 q482 q483 q484 q485 q486 q487 q488 q489 q4810 q4811 q48ia q48ib q48ic q48id q48ka q48kb q48kc q48kd
  generalize ((((w.setCell ⟨blk, off + a * 2, none⟩ (.int .i64 q48y.1)).setCell ⟨blk, off + a * 2 + 1, none⟩ (.int .i64 q48y.2)).setCell ⟨blk, off + pivot * 2, none⟩ (.int .i64 q48x.1)).setCell ⟨blk, off + pivot * 2 + 1, none⟩ (.int .i64 q48x.2)).drew = w1 at S1 ⊢
  obtain ⟨d1, hd1⟩ : ∃ d1, d1 = swp d a pivot := ⟨_, rfl⟩
  rw [← hd1] at S1
  have HD := Lib.hid hd1
  clear hd1
  go_upto_block 0 with fail
  rw [show (b : Int) - 1 = (jb : Int) by omega]
  go_upto_block 0 with fail
  go_cut [12] from 32 to 49 (fun v wc => ∃ s1 : Nat, v = .int .i64 s1 ∧ ((a + 1) ≤ s1 ∧ s1 ≤ jb + 1) ∧ Hid (SW w0 blk off n d1 wc) ∧ Hid (s1 = scanUp (fun x => ltE x d1[a]!) d1 jb ((a + 1))))
  case first =>
    go_wp2_with fail
    go_loopg [12] (jb + 1 - (a + 1)) (fun gm vi wl => ∃ x1 : Nat, vi = .int .i64 x1 ∧ (a + 1) ≤ x1 ∧ x1 ≤ jb + 1 ∧ jb + 1 - x1 ≤ gm ∧ Hid (SW w0 blk off n d1 wl) ∧ Hid (scanUp (fun x => ltE x d1[a]!) d1 jb (x1) = scanUp (fun x => ltE x d1[a]!) d1 jb ((a + 1))))
    case atStart => exact ⟨(a + 1), by first | rfl | go_num | (congr 1; omega), Nat.le_refl _, by omega, Nat.le_refl _, S1, rfl⟩
    case round =>
      clear S1
      obtain ⟨x1, rfl, hb1, hb2, hgm, SU, hsc⟩ := hrel
      by_cases hle : x1 ≤ jb
      · have hgu : decide ((x1 : Int) ≤ (jb : Int)) = true := decide_eq_true (by omega)
        cases hL : ltE d1[x1]! d1[a]! with
        | true =>
          have q42ia : ((x1 : Int)).toNat = x1 := by omega
          have q42ib : 0 ≤ ((x1 : Int)) := by omega
          have q42ic : ((x1 : Int)) < (n : Int) := by omega
          have q42id : IntKind.i64.wrap ((x1 : Int)) = (x1 : Int) := by rw [IntKind.wrap_i64]; omega
          have q42ka : ((a : Int)).toNat = a := by omega
          have q42kb : 0 ≤ ((a : Int)) := by omega
          have q42kc : ((a : Int)) < (n : Int) := by omega
          have q42kd : IntKind.i64.wrap ((a : Int)) = (a : Int) := by rw [IntKind.wrap_i64]; omega
          obtain ⟨q42x, q42y, q421, q422, q423, q424, q425, q426⟩ := SU.out.ask (x1) (a) (by omega) (by omega) hL
          have q42H := Lib.hid q425
          clear q425
          go_wp2_with fail
          go_quiet_grown ((go_at_call 48; exact q42H.out _ _))
          have SV := Lib.hid (SU.out.grown nq osq)
          clear q421 q422 q423 q424 q42H SU q42ia q42ib q42ic q42id q42ka q42kb q42kc q42kd
          generalize grow (wr.drewN nq) osq = wv at SV ⊢
          clear nq osq
          go_wp2
          go_roundg (jb + 1 - (x1 + 1))
          case measure => omega
          case rel => exact ⟨x1 + 1, by first | rfl | go_num | (congr 1; omega), by omega, by omega, Nat.le_refl _, SV, (scanUp_go (fun x => ltE x d1[a]!) d1 jb x1 hle (by simp [hL])).symm.trans hsc.out⟩
        | false =>
          have q43ia : ((x1 : Int)).toNat = x1 := by omega
          have q43ib : 0 ≤ ((x1 : Int)) := by omega
          have q43ic : ((x1 : Int)) < (n : Int) := by omega
          have q43id : IntKind.i64.wrap ((x1 : Int)) = (x1 : Int) := by rw [IntKind.wrap_i64]; omega
          have q43ka : ((a : Int)).toNat = a := by omega
          have q43kb : 0 ≤ ((a : Int)) := by omega
          have q43kc : ((a : Int)) < (n : Int) := by omega
          have q43kd : IntKind.i64.wrap ((a : Int)) = (a : Int) := by rw [IntKind.wrap_i64]; omega
          obtain ⟨q43x, q43y, q431, q432, q433, q434, q435, q436⟩ := SU.out.ask (x1) (a) (by omega) (by omega) hL
          have q43H := Lib.hid q435
          clear q435
          go_wp2_with fail
          go_quiet_grown ((go_at_call 48; exact q43H.out _ _))
          have SV := Lib.hid (SU.out.grown nq osq)
          clear q431 q432 q433 q434 q43H SU q43ia q43ib q43ic q43id q43ka q43kb q43kc q43kd
          generalize grow (wr.drewN nq) osq = wv at SV ⊢
          clear nq osq
          go_wp2
          go_meet
          case rel => exact ⟨x1, rfl, ⟨hb1, hb2⟩, SV, (scanUp_end (fun x => ltE x d1[a]!) d1 jb x1 (Or.inr (by simp [hL]))).symm.trans hsc.out⟩
      · have hgu : decide ((x1 : Int) ≤ (jb : Int)) = false := decide_eq_false (by omega)
        have SV := Lib.hid SU.out.drew
        clear SU
        go_wp2_with fail
        go_big_region
        generalize wr.drew = wv at SV ⊢
        go_wp2
        go_meet
        case rel => exact ⟨x1, rfl, ⟨hb1, hb2⟩, SV, (scanUp_end (fun x => ltE x d1[a]!) d1 jb x1 (Or.inl hle)).symm.trans hsc.out⟩
  case rest =>
    clear S1
    obtain ⟨s1, rfl, ⟨s1a, s1b⟩, S2, s1e⟩ := hcut
    go_upto_block 2 with fail
    go_cut [13] from 50 to 68 (fun v wc => ∃ s2 : Nat, v = .int .i64 s2 ∧ (s2 ≤ jb ∧ s1 ≤ s2 + 1) ∧ Hid (SW w0 blk off n d1 wc) ∧ Hid (s2 = scanDown (fun x => !ltE x d1[a]!) d1 s1 (jb)))
    case first =>
      go_wp2_with fail
      go_loopg [13] (jb) (fun gm vi wl => ∃ x2 : Nat, vi = .int .i64 x2 ∧ x2 ≤ jb ∧ s1 ≤ x2 + 1 ∧ x2 ≤ gm ∧ Hid (SW w0 blk off n d1 wl) ∧ Hid (scanDown (fun x => !ltE x d1[a]!) d1 s1 (x2) = scanDown (fun x => !ltE x d1[a]!) d1 s1 (jb)))
      case atStart => exact ⟨jb, by first | rfl | go_num | (congr 1; omega), Nat.le_refl _, by omega, Nat.le_refl _, S2, rfl⟩
      case round =>
        clear S2
        obtain ⟨x2, rfl, hb1, hb2, hgm, SU, hsc⟩ := hrel
        by_cases hle : s1 ≤ x2
        · have hgu : decide ((s1 : Int) ≤ (x2 : Int)) = true := decide_eq_true (by omega)
          cases hL : ltE d1[x2]! d1[a]! with
          | false =>
            have q44ia : ((x2 : Int)).toNat = x2 := by omega
            have q44ib : 0 ≤ ((x2 : Int)) := by omega
            have q44ic : ((x2 : Int)) < (n : Int) := by omega
            have q44id : IntKind.i64.wrap ((x2 : Int)) = (x2 : Int) := by rw [IntKind.wrap_i64]; omega
            have q44ka : ((a : Int)).toNat = a := by omega
            have q44kb : 0 ≤ ((a : Int)) := by omega
            have q44kc : ((a : Int)) < (n : Int) := by omega
            have q44kd : IntKind.i64.wrap ((a : Int)) = (a : Int) := by rw [IntKind.wrap_i64]; omega
            obtain ⟨q44x, q44y, q441, q442, q443, q444, q445, q446⟩ := SU.out.ask (x2) (a) (by omega) (by omega) hL
            have q44H := Lib.hid q445
            clear q445
            go_wp2_with fail
            go_quiet_grown ((go_at_call 48; exact q44H.out _ _))
            have SV := Lib.hid (SU.out.grown nq osq)
            clear q441 q442 q443 q444 q44H SU q44ia q44ib q44ic q44id q44ka q44kb q44kc q44kd
            generalize grow (wr.drewN nq) osq = wv at SV ⊢
            clear nq osq
            go_wp2
            go_roundg ((x2 - 1))
            case measure => omega
            case rel => exact ⟨x2 - 1, by first | rfl | go_num | (congr 1; omega), by omega, by omega, Nat.le_refl _, SV, (scanDown_go (fun x => !ltE x d1[a]!) d1 s1 x2 hle (by omega) (by simp [hL])).symm.trans hsc.out⟩
          | true =>
            have q45ia : ((x2 : Int)).toNat = x2 := by omega
            have q45ib : 0 ≤ ((x2 : Int)) := by omega
            have q45ic : ((x2 : Int)) < (n : Int) := by omega
            have q45id : IntKind.i64.wrap ((x2 : Int)) = (x2 : Int) := by rw [IntKind.wrap_i64]; omega
            have q45ka : ((a : Int)).toNat = a := by omega
            have q45kb : 0 ≤ ((a : Int)) := by omega
            have q45kc : ((a : Int)) < (n : Int) := by omega
            have q45kd : IntKind.i64.wrap ((a : Int)) = (a : Int) := by rw [IntKind.wrap_i64]; omega
            obtain ⟨q45x, q45y, q451, q452, q453, q454, q455, q456⟩ := SU.out.ask (x2) (a) (by omega) (by omega) hL
            have q45H := Lib.hid q455
            clear q455
            go_wp2_with fail
            go_quiet_grown ((go_at_call 48; exact q45H.out _ _))
            have SV := Lib.hid (SU.out.grown nq osq)
            clear q451 q452 q453 q454 q45H SU q45ia q45ib q45ic q45id q45ka q45kb q45kc q45kd
            generalize grow (wr.drewN nq) osq = wv at SV ⊢
            clear nq osq
            go_wp2
            go_meet
            case rel => exact ⟨x2, rfl, ⟨hb1, hb2⟩, SV, (scanDown_end (fun x => !ltE x d1[a]!) d1 s1 x2 (Or.inr (by simp [hL]))).symm.trans hsc.out⟩
        · have hgu : decide ((s1 : Int) ≤ (x2 : Int)) = false := decide_eq_false (by omega)
          have SV := Lib.hid SU.out.drew
          clear SU
          go_wp2_with fail
          go_big_region
          generalize wr.drew = wv at SV ⊢
          go_wp2
          go_meet
          case rel => exact ⟨x2, rfl, ⟨hb1, hb2⟩, SV, (scanDown_end (fun x => !ltE x d1[a]!) d1 s1 x2 (Or.inl hle)).symm.trans hsc.out⟩
    case rest =>
      clear S2
      obtain ⟨s2, rfl, ⟨s2a, s2b⟩, S3, s2e⟩ := hcut
      by_cases hgt : s2 < s1
      · have hgtz : (s2 : Int) < (s1 : Int) := by omega
        have e : Hid (partition ltE d a b pivot = (s2, true, swp d1 s2 a)) := part_first_break ltE d a b pivot rfl HJ.out HD.out s1e.out s2e.out hgt
        clear s1e s2e
        go_wp2_with fail
        have q46ia : ((s2 : Int)).toNat = s2 := by omega
        have q46ib : 0 ≤ ((s2 : Int)) := by omega
        have q46ic : ((s2 : Int)) < (n : Int) := by omega
        have q46id : IntKind.i64.wrap ((s2 : Int)) = (s2 : Int) := by rw [IntKind.wrap_i64]; omega
        have q46ka : ((a : Int)).toNat = a := by omega
        have q46kb : 0 ≤ ((a : Int)) := by omega
        have q46kc : ((a : Int)) < (n : Int) := by omega
        have q46kd : IntKind.i64.wrap ((a : Int)) = (a : Int) := by rw [IntKind.wrap_i64]; omega
        obtain ⟨q46x, q46y, q461, q462, q463, q464, q465, q466, q467, q468, ⟨q46u, q469⟩, ⟨q46v, q4610⟩, ⟨q46w, q4611⟩, q46S⟩ := S3.out.swaps (s2) (a) (by omega) (by omega)
        have S4 := Lib.hid q46S
        clear q46S S3
        go_wp2_with fail
        go_big_region
        clear q461 q462 q463 q464 q465 q466 q467 q468 q469 q4610 q4611 q46ia q46ib q46ic q46id q46ka q46kb q46kc q46kd
        generalize ((((wc.setCell ⟨blk, off + s2 * 2, none⟩ (.int .i64 q46y.1)).setCell ⟨blk, off + s2 * 2 + 1, none⟩ (.int .i64 q46y.2)).setCell ⟨blk, off + a * 2, none⟩ (.int .i64 q46x.1)).setCell ⟨blk, off + a * 2 + 1, none⟩ (.int .i64 q46x.2)).drew = w4 at S4 ⊢
        go_wp2
        rw [e.out]
        go_ret2
        exact ⟨rfl, S4.out⟩
      · have hgtz : ¬ (s2 : Int) < (s1 : Int) := by omega
        have hlt3 := part_scans_lt ltE a (a + 1) jb d1 (by omega) s1e.out s2e.out (by omega)
        have e : Hid (partition ltE d a b pivot = ((partLoop ltE a (s1 + 1) (s2 - 1) (swp d1 s1 s2)).1, false, swp (partLoop ltE a (s1 + 1) (s2 - 1) (swp d1 s1 s2)).2 (partLoop ltE a (s1 + 1) (s2 - 1) (swp d1 s1 s2)).1 a)) :=
          part_first_go ltE d a b pivot rfl HJ.out HD.out s1e.out s2e.out hgt
        clear s1e s2e
        go_wp2_with fail
        have q47ia : ((s1 : Int)).toNat = s1 := by omega
        have q47ib : 0 ≤ ((s1 : Int)) := by omega
        have q47ic : ((s1 : Int)) < (n : Int) := by omega
        have q47id : IntKind.i64.wrap ((s1 : Int)) = (s1 : Int) := by rw [IntKind.wrap_i64]; omega
        have q47ka : ((s2 : Int)).toNat = s2 := by omega
        have q47kb : 0 ≤ ((s2 : Int)) := by omega
        have q47kc : ((s2 : Int)) < (n : Int) := by omega
        have q47kd : IntKind.i64.wrap ((s2 : Int)) = (s2 : Int) := by rw [IntKind.wrap_i64]; omega
        obtain ⟨q47x, q47y, q471, q472, q473, q474, q475, q476, q477, q478, ⟨q47u, q479⟩, ⟨q47v, q4710⟩, ⟨q47w, q4711⟩, q47S⟩ := S3.out.swaps (s1) (s2) (by omega) (by omega)
        have S4 := Lib.hid q47S
        clear q47S S3
        go_wp2_with fail
        go_big_region
        clear q471 q472 q473 q474 q475 q476 q477 q478 q479 q4710 q4711 q47ia q47ib q47ic q47id q47ka q47kb q47kc q47kd
        generalize ((((wc.setCell ⟨blk, off + s1 * 2, none⟩ (.int .i64 q47y.1)).setCell ⟨blk, off + s1 * 2 + 1, none⟩ (.int .i64 q47y.2)).setCell ⟨blk, off + s2 * 2, none⟩ (.int .i64 q47x.1)).setCell ⟨blk, off + s2 * 2 + 1, none⟩ (.int .i64 q47x.2)).drew = w4 at S4 ⊢
        have ei1 : Hid (∃ i1, i1 = s1 + 1) := ⟨_, rfl⟩
        obtain ⟨i1, hi1⟩ := ei1.out
        obtain ⟨j1, hj1⟩ : ∃ j1, j1 = s2 - 1 := ⟨_, rfl⟩
        obtain ⟨d2, hd2⟩ : ∃ d2, d2 = swp d1 s1 s2 := ⟨_, rfl⟩
        have HP : Hid (partition ltE d a b pivot = ((partLoop ltE a i1 j1 d2).1, false, swp (partLoop ltE a i1 j1 d2).2 (partLoop ltE a i1 j1 d2).1 a)) := by show _ = _; rw [hi1, hj1, hd2]; exact e.out
        rw [← hd2] at S4
        have HI1 := Lib.hid hi1
        have HJ1 := Lib.hid hj1
        have hI1 : i1 ≤ s1 + 1 ∧ s1 + 1 ≤ i1 := by omega
        have hJ1 : j1 ≤ s2 - 1 ∧ s2 - 1 ≤ j1 := by omega
        clear e ei1 hi1 hj1 hd2
        go_wp2
        go_loopg [12, 13] (j1 + 1 - i1) (fun gm vi vj wr => ∃ (i j : Nat) (dk : Array Edge), vi = .int .i64 i ∧ vj = .int .i64 j ∧ a < i ∧ i ≤ j + 1 ∧ j < b ∧ j + 1 - i ≤ gm ∧ Hid (SW w0 blk off n dk wr) ∧
            Hid (partLoop ltE a i j dk = partLoop ltE a i1 j1 d2))
        case atStart => exact ⟨i1, j1, d2, by rw [HI1.out]; first | rfl | go_num | (congr 1; omega), by rw [HJ1.out]; first | rfl | go_num | (congr 1; omega), by omega, by omega, by omega, Nat.le_refl _, S4, rfl⟩
        case round =>
          clear S4
          obtain ⟨i, j, dk, rfl, rfl, hai, hij, hjb, hgm, S1, AE⟩ := hrel
          go_upto_block 6 with fail
          go_cut [12] from 105 to 122 (fun v wc => ∃ s3 : Nat, v = .int .i64 s3 ∧ (i ≤ s3 ∧ s3 ≤ j + 1) ∧ Hid (SW w0 blk off n dk wc) ∧ Hid (s3 = scanUp (fun x => ltE x dk[a]!) dk j (i)))
          case first =>
            go_wp2_with fail
            go_loopg [12] (j + 1 - i) (fun gm vi wl => ∃ x3 : Nat, vi = .int .i64 x3 ∧ i ≤ x3 ∧ x3 ≤ j + 1 ∧ j + 1 - x3 ≤ gm ∧ Hid (SW w0 blk off n dk wl) ∧ Hid (scanUp (fun x => ltE x dk[a]!) dk j (x3) = scanUp (fun x => ltE x dk[a]!) dk j (i)))
            case atStart => exact ⟨i, by first | rfl | go_num | (congr 1; omega), Nat.le_refl _, by omega, Nat.le_refl _, S1, rfl⟩
            case round =>
              clear S1
              obtain ⟨x3, rfl, hb1, hb2, hgm, SU, hsc⟩ := hrel
              by_cases hle : x3 ≤ j
              · have hgu : decide ((x3 : Int) ≤ (j : Int)) = true := decide_eq_true (by omega)
                cases hL : ltE dk[x3]! dk[a]! with
                | true =>
                  have q36ia : ((x3 : Int)).toNat = x3 := by omega
                  have q36ib : 0 ≤ ((x3 : Int)) := by omega
                  have q36ic : ((x3 : Int)) < (n : Int) := by omega
                  have q36id : IntKind.i64.wrap ((x3 : Int)) = (x3 : Int) := by rw [IntKind.wrap_i64]; omega
                  have q36ka : ((a : Int)).toNat = a := by omega
                  have q36kb : 0 ≤ ((a : Int)) := by omega
                  have q36kc : ((a : Int)) < (n : Int) := by omega
                  have q36kd : IntKind.i64.wrap ((a : Int)) = (a : Int) := by rw [IntKind.wrap_i64]; omega
                  obtain ⟨q36x, q36y, q361, q362, q363, q364, q365, q366⟩ := SU.out.ask (x3) (a) (by omega) (by omega) hL
                  have q36H := Lib.hid q365
                  clear q365
                  go_wp2_with fail
                  go_quiet_grown ((go_at_call 48; exact q36H.out _ _))
                  have SV := Lib.hid (SU.out.grown nq osq)
                  clear q361 q362 q363 q364 q36H SU q36ia q36ib q36ic q36id q36ka q36kb q36kc q36kd
                  generalize grow (wr.drewN nq) osq = wv at SV ⊢
                  clear nq osq
                  go_wp2
                  go_roundg (j + 1 - (x3 + 1))
                  case measure => omega
                  case rel => exact ⟨x3 + 1, by first | rfl | go_num | (congr 1; omega), by omega, by omega, Nat.le_refl _, SV, (scanUp_go (fun x => ltE x dk[a]!) dk j x3 hle (by simp [hL])).symm.trans hsc.out⟩
                | false =>
                  have q37ia : ((x3 : Int)).toNat = x3 := by omega
                  have q37ib : 0 ≤ ((x3 : Int)) := by omega
                  have q37ic : ((x3 : Int)) < (n : Int) := by omega
                  have q37id : IntKind.i64.wrap ((x3 : Int)) = (x3 : Int) := by rw [IntKind.wrap_i64]; omega
                  have q37ka : ((a : Int)).toNat = a := by omega
                  have q37kb : 0 ≤ ((a : Int)) := by omega
                  have q37kc : ((a : Int)) < (n : Int) := by omega
                  have q37kd : IntKind.i64.wrap ((a : Int)) = (a : Int) := by rw [IntKind.wrap_i64]; omega
                  obtain ⟨q37x, q37y, q371, q372, q373, q374, q375, q376⟩ := SU.out.ask (x3) (a) (by omega) (by omega) hL
                  have q37H := Lib.hid q375
                  clear q375
                  go_wp2_with fail
                  go_quiet_grown ((go_at_call 48; exact q37H.out _ _))
                  have SV := Lib.hid (SU.out.grown nq osq)
                  clear q371 q372 q373 q374 q37H SU q37ia q37ib q37ic q37id q37ka q37kb q37kc q37kd
                  generalize grow (wr.drewN nq) osq = wv at SV ⊢
                  clear nq osq
                  go_wp2
                  go_meet
                  case rel => exact ⟨x3, rfl, ⟨hb1, hb2⟩, SV, (scanUp_end (fun x => ltE x dk[a]!) dk j x3 (Or.inr (by simp [hL]))).symm.trans hsc.out⟩
              · have hgu : decide ((x3 : Int) ≤ (j : Int)) = false := decide_eq_false (by omega)
                have SV := Lib.hid SU.out.drew
                clear SU
                go_wp2_with fail
                go_big_region
                generalize wr.drew = wv at SV ⊢
                go_wp2
                go_meet
                case rel => exact ⟨x3, rfl, ⟨hb1, hb2⟩, SV, (scanUp_end (fun x => ltE x dk[a]!) dk j x3 (Or.inl hle)).symm.trans hsc.out⟩
          case rest =>
            clear S1
            obtain ⟨s3, rfl, ⟨s3a, s3b⟩, S2, s3e⟩ := hcut
            go_upto_block 8 with fail
            go_cut [13] from 123 to 141 (fun v wc => ∃ s4 : Nat, v = .int .i64 s4 ∧ (s4 ≤ j ∧ s3 ≤ s4 + 1) ∧ Hid (SW w0 blk off n dk wc) ∧ Hid (s4 = scanDown (fun x => !ltE x dk[a]!) dk s3 (j)))
            case first =>
              go_wp2_with fail
              go_loopg [13] (j) (fun gm vi wl => ∃ x4 : Nat, vi = .int .i64 x4 ∧ x4 ≤ j ∧ s3 ≤ x4 + 1 ∧ x4 ≤ gm ∧ Hid (SW w0 blk off n dk wl) ∧ Hid (scanDown (fun x => !ltE x dk[a]!) dk s3 (x4) = scanDown (fun x => !ltE x dk[a]!) dk s3 (j)))
              case atStart => exact ⟨j, by first | rfl | go_num | (congr 1; omega), Nat.le_refl _, by omega, Nat.le_refl _, S2, rfl⟩
              case round =>
                clear S2
                obtain ⟨x4, rfl, hb1, hb2, hgm, SU, hsc⟩ := hrel
                by_cases hle : s3 ≤ x4
                · have hgu : decide ((s3 : Int) ≤ (x4 : Int)) = true := decide_eq_true (by omega)
                  cases hL : ltE dk[x4]! dk[a]! with
                  | false =>
                    have q38ia : ((x4 : Int)).toNat = x4 := by omega
                    have q38ib : 0 ≤ ((x4 : Int)) := by omega
                    have q38ic : ((x4 : Int)) < (n : Int) := by omega
                    have q38id : IntKind.i64.wrap ((x4 : Int)) = (x4 : Int) := by rw [IntKind.wrap_i64]; omega
                    have q38ka : ((a : Int)).toNat = a := by omega
                    have q38kb : 0 ≤ ((a : Int)) := by omega
                    have q38kc : ((a : Int)) < (n : Int) := by omega
                    have q38kd : IntKind.i64.wrap ((a : Int)) = (a : Int) := by rw [IntKind.wrap_i64]; omega
                    obtain ⟨q38x, q38y, q381, q382, q383, q384, q385, q386⟩ := SU.out.ask (x4) (a) (by omega) (by omega) hL
                    have q38H := Lib.hid q385
                    clear q385
                    go_wp2_with fail
                    go_quiet_grown ((go_at_call 48; exact q38H.out _ _))
                    have SV := Lib.hid (SU.out.grown nq osq)
                    clear q381 q382 q383 q384 q38H SU q38ia q38ib q38ic q38id q38ka q38kb q38kc q38kd
                    generalize grow (wr.drewN nq) osq = wv at SV ⊢
                    clear nq osq
                    go_wp2
                    go_roundg ((x4 - 1))
                    case measure => omega
                    case rel => exact ⟨x4 - 1, by first | rfl | go_num | (congr 1; omega), by omega, by omega, Nat.le_refl _, SV, (scanDown_go (fun x => !ltE x dk[a]!) dk s3 x4 hle (by omega) (by simp [hL])).symm.trans hsc.out⟩
                  | true =>
                    have q39ia : ((x4 : Int)).toNat = x4 := by omega
                    have q39ib : 0 ≤ ((x4 : Int)) := by omega
                    have q39ic : ((x4 : Int)) < (n : Int) := by omega
                    have q39id : IntKind.i64.wrap ((x4 : Int)) = (x4 : Int) := by rw [IntKind.wrap_i64]; omega
                    have q39ka : ((a : Int)).toNat = a := by omega
                    have q39kb : 0 ≤ ((a : Int)) := by omega
                    have q39kc : ((a : Int)) < (n : Int) := by omega
                    have q39kd : IntKind.i64.wrap ((a : Int)) = (a : Int) := by rw [IntKind.wrap_i64]; omega
                    obtain ⟨q39x, q39y, q391, q392, q393, q394, q395, q396⟩ := SU.out.ask (x4) (a) (by omega) (by omega) hL
                    have q39H := Lib.hid q395
                    clear q395
                    go_wp2_with fail
                    go_quiet_grown ((go_at_call 48; exact q39H.out _ _))
                    have SV := Lib.hid (SU.out.grown nq osq)
                    clear q391 q392 q393 q394 q39H SU q39ia q39ib q39ic q39id q39ka q39kb q39kc q39kd
                    generalize grow (wr.drewN nq) osq = wv at SV ⊢
                    clear nq osq
                    go_wp2
                    go_meet
                    case rel => exact ⟨x4, rfl, ⟨hb1, hb2⟩, SV, (scanDown_end (fun x => !ltE x dk[a]!) dk s3 x4 (Or.inr (by simp [hL]))).symm.trans hsc.out⟩
                · have hgu : decide ((s3 : Int) ≤ (x4 : Int)) = false := decide_eq_false (by omega)
                  have SV := Lib.hid SU.out.drew
                  clear SU
                  go_wp2_with fail
                  go_big_region
                  generalize wr.drew = wv at SV ⊢
                  go_wp2
                  go_meet
                  case rel => exact ⟨x4, rfl, ⟨hb1, hb2⟩, SV, (scanDown_end (fun x => !ltE x dk[a]!) dk s3 x4 (Or.inl hle)).symm.trans hsc.out⟩
            case rest =>
              clear S2
              obtain ⟨s4, rfl, ⟨s4a, s4b⟩, S3, s4e⟩ := hcut
              by_cases hgt : s4 < s3
              · have hgtz : (s4 : Int) < (s3 : Int) := by omega
                have e : Hid (partLoop ltE a i1 j1 d2 = (s4, dk)) := by show _ = _; rw [← AE.out]; exact part_break ltE a i j dk s3e.out s4e.out hgt
                clear AE s3e s4e
                go_wp2_with fail
                have q40ia : ((s4 : Int)).toNat = s4 := by omega
                have q40ib : 0 ≤ ((s4 : Int)) := by omega
                have q40ic : ((s4 : Int)) < (n : Int) := by omega
                have q40id : IntKind.i64.wrap ((s4 : Int)) = (s4 : Int) := by rw [IntKind.wrap_i64]; omega
                have q40ka : ((a : Int)).toNat = a := by omega
                have q40kb : 0 ≤ ((a : Int)) := by omega
                have q40kc : ((a : Int)) < (n : Int) := by omega
                have q40kd : IntKind.i64.wrap ((a : Int)) = (a : Int) := by rw [IntKind.wrap_i64]; omega
                obtain ⟨q40x, q40y, q401, q402, q403, q404, q405, q406, q407, q408, ⟨q40u, q409⟩, ⟨q40v, q4010⟩, ⟨q40w, q4011⟩, q40S⟩ := S3.out.swaps (s4) (a) (by omega) (by omega)
                have S4 := Lib.hid q40S
                clear q40S S3
                go_wp2_with fail
                go_big_region
                clear q401 q402 q403 q404 q405 q406 q407 q408 q409 q4010 q4011 q40ia q40ib q40ic q40id q40ka q40kb q40kc q40kd
                generalize ((((wc.setCell ⟨blk, off + s4 * 2, none⟩ (.int .i64 q40y.1)).setCell ⟨blk, off + s4 * 2 + 1, none⟩ (.int .i64 q40y.2)).setCell ⟨blk, off + a * 2, none⟩ (.int .i64 q40x.1)).setCell ⟨blk, off + a * 2 + 1, none⟩ (.int .i64 q40x.2)).drew = w4 at S4 ⊢
                go_wp2
                rw [HP.out, e.out]
                go_ret2
                exact ⟨rfl, S4.out⟩
              · have hgtz : ¬ (s4 : Int) < (s3 : Int) := by omega
                have hlt3 := part_scans_lt ltE a i j dk (by omega) s3e.out s4e.out (by omega)
                have AE2 : Hid (partLoop ltE a (s3 + 1) (s4 - 1) (swp dk s3 s4) = partLoop ltE a i1 j1 d2) := by show _ = _; rw [← AE.out]; exact (part_go ltE a i j dk s3e.out s4e.out hgt).symm
                clear AE s3e s4e
                go_wp2_with fail
                have q41ia : ((s3 : Int)).toNat = s3 := by omega
                have q41ib : 0 ≤ ((s3 : Int)) := by omega
                have q41ic : ((s3 : Int)) < (n : Int) := by omega
                have q41id : IntKind.i64.wrap ((s3 : Int)) = (s3 : Int) := by rw [IntKind.wrap_i64]; omega
                have q41ka : ((s4 : Int)).toNat = s4 := by omega
                have q41kb : 0 ≤ ((s4 : Int)) := by omega
                have q41kc : ((s4 : Int)) < (n : Int) := by omega
                have q41kd : IntKind.i64.wrap ((s4 : Int)) = (s4 : Int) := by rw [IntKind.wrap_i64]; omega
                obtain ⟨q41x, q41y, q411, q412, q413, q414, q415, q416, q417, q418, ⟨q41u, q419⟩, ⟨q41v, q4110⟩, ⟨q41w, q4111⟩, q41S⟩ := S3.out.swaps (s3) (s4) (by omega) (by omega)
                have S4 := Lib.hid q41S
                clear q41S S3
                go_wp2_with fail
                go_big_region
                clear q411 q412 q413 q414 q415 q416 q417 q418 q419 q4110 q4111 q41ia q41ib q41ic q41id q41ka q41kb q41kc q41kd
                generalize ((((wc.setCell ⟨blk, off + s3 * 2, none⟩ (.int .i64 q41y.1)).setCell ⟨blk, off + s3 * 2 + 1, none⟩ (.int .i64 q41y.2)).setCell ⟨blk, off + s4 * 2, none⟩ (.int .i64 q41x.1)).setCell ⟨blk, off + s4 * 2 + 1, none⟩ (.int .i64 q41x.2)).drew = w4 at S4 ⊢
                go_wp2
                go_roundg (s4 - 1 + 1 - (s3 + 1))
                case measure => omega
                case rel => exact ⟨s3 + 1, s4 - 1, swp dk s3 s4, by first | rfl | go_num | (congr 1; omega), by first | rfl | go_num | (congr 1; omega), by omega, by omega, by omega, Nat.le_refl _, S4, AE2⟩

end Go.Proofs.Ytgmgofcclddkiaa
