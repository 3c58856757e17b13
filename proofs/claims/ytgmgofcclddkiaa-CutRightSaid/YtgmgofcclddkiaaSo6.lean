/- A part of the sort of edges: breakPatterns: what it leaves is what the plain twin says. -/
import Derived.Test.YtgmgofcclddkiaaSo2
import Derived.Test.YtgmgofcclddkiaaBit
import Derived.Shelf.SlSortCmp.BreakPatternsK
import Derived.BigRegion
namespace Go.Proofs.Ytgmgofcclddkiaa
open Go.RowKit Go.Sort Go.Proofs Go.Shelf
theorem kept_swap {W : World} {blk c : Nat} {v : Value} (hne : c ≠ blk) (hc : W.cell? ⟨c, 0, none⟩ = some v) (hf : W.frozen? ⟨c, 0, none⟩ = false) (p q : Nat) (x y : Edge) :
    ((((W.setCell ⟨blk, p, none⟩ (.int .i64 y.1)).setCell ⟨blk, p + 1, none⟩ (.int .i64 y.2)).setCell ⟨blk, q, none⟩ (.int .i64 x.1)).setCell ⟨blk, q + 1, none⟩ (.int .i64 x.2)).drew.cell? ⟨c, 0, none⟩ = some v ∧
    ((((W.setCell ⟨blk, p, none⟩ (.int .i64 y.1)).setCell ⟨blk, p + 1, none⟩ (.int .i64 y.2)).setCell ⟨blk, q, none⟩ (.int .i64 x.1)).setCell ⟨blk, q + 1, none⟩ (.int .i64 x.2)).drew.frozen? ⟨c, 0, none⟩ = false := by
  have ne : ∀ o, (⟨blk, o, none⟩ : Addr) ≠ ⟨c, 0, none⟩ := fun o e => hne (by have := congrArg Addr.block e; exact this.symm)
  constructor
  · rw [World.cell?_drew, World.cell?_setCell_other _ _ _ _ (ne _), World.cell?_setCell_other _ _ _ _ (ne _), World.cell?_setCell_other _ _ _ _ (ne _), World.cell?_setCell_other _ _ _ _ (ne _)]
    exact hc
  · rw [World.frozen?_drew]
    simp only [World.frozen?_setCell]
    exact hf

set_option maxRecDepth 1000000 in
set_option maxHeartbeats 8000000 in
theorem break_go (w0 w : World) (blk off n cap a L : Nat) (d : Array Edge) (S : SW w0 blk off n d w) (hb : a + L ≤ n) (h8 : 8 ≤ L) :
    Calls Try.prog 68 #[.slice (some ⟨blk, off, none⟩) n cap, .int .i64 a, .int .i64 ((a + L : Nat) : Int), ofV] w fun e w' => e = .returned (.tuple #[]) ∧ SW w0 blk off n (breakPatterns d a (a + L)) w' := by
  have mixed : Try.prog.follows .mixedOrders = true := by kernel_rfl
  have hn := S.small
  rw [breakPatterns_eq d a L h8]
  obtain ⟨M, hM⟩ : ∃ M : Nat, M = 1 <<< bitsLen L := ⟨_, rfl⟩
  have hM1 : 1 ≤ M := by rw [hM, Nat.one_shiftLeft]; exact Nat.two_pow_pos _
  have hM2 : M ≤ 2 * L := by rw [hM, Nat.one_shiftLeft]; exact two_pow_bitsLen_le (by omega)
  have hNP : ∀ w, Calls Try.prog 76 #[.int .i64 (L : Int)] w fun e w' => e = .returned (.int .u64 (M : Int)) ∧ w' = w := by
    rw [hM]; exact fun w => AnyF.nextPowerOfTwo Try.npot L (by omega) w
  have HNP := Lib.hid hNP
  clear hNP
  rw [← hM]
  clear hM
  have hLz : ((a : Int) + (L : Int) - (a : Int)) = (L : Int) := by omega
  have h8z : (8 : Int) ≤ (L : Int) := by omega
  have hne : w.heap.size ≠ blk := by have := S.lt; omega
  have hle0 : w0.heap.size ≤ w.heap.size := S.now.le
  have S0 := Lib.hid S
  clear S
  go_enter Try.func68, Try.ntmps68
  go_wp2_with (go_at_call 76; refine (HNP.out _).mono ?_; rintro e w' ⟨rfl, rfl⟩)
  go_loopg [11] 3 (fun g1 vi wr => ∃ (t : Nat) (r : UInt64) (dk : Array Edge), vi = .int .i64 ((a : Int) + (L : Int) / 4 * 2 - 1 + (t : Int)) ∧ t ≤ 3 ∧ 3 - t ≤ g1 ∧ Hid (SW w0 blk off n dk wr) ∧
      wr.cell? ⟨w.heap.size, 0, none⟩ = some (.int .u64 (r.toNat : Int)) ∧ wr.frozen? ⟨w.heap.size, 0, none⟩ = false ∧
      Hid (bpRest a L M (a + L / 4 * 2 - 1) (3 - t) t (r, dk) = bpRest a L M (a + L / 4 * 2 - 1) 3 0 (UInt64.ofNat L, d)))
  case atStart =>
    refine ⟨0, UInt64.ofNat L, d, by simp, by omega, by omega, Lib.hid { S0.out with now := S0.out.now.alloc _ }, ?_, by simp, rfl⟩
    rw [show (UInt64.ofNat L).toNat = L from by simp; omega]
    simp
  case round =>
    clear S0
    obtain ⟨t, r, dk, rfl, ht, hg1, S1, cR, fR, HR⟩ := hrel
    by_cases ht3 : t < 3
    · have hle : (a : Int) + (L : Int) / 4 * 2 - 1 + (t : Int) ≤ (a : Int) + (L : Int) / 4 * 2 + 1 := by omega
      obtain ⟨R0, hRr⟩ : ∃ R0 : Nat, R0 = r.toNat := ⟨_, rfl⟩
      have lR : R0 < 18446744073709551616 := by rw [hRr]; exact r.toNat_lt
      obtain ⟨R', hR'⟩ : ∃ R' : Nat, R' = xorNextN R0 := ⟨_, rfl⟩
      have lR' : R' < 18446744073709551616 := by rw [hR']; exact xorNextN_lt R0 lR
      obtain ⟨O, hO⟩ : ∃ O : Nat, O = R' &&& (M - 1) := ⟨_, rfl⟩
      have lO : O ≤ M - 1 := by rw [hO]; exact Nat.and_le_right
      have eAnd : bits .and .u64 (R' : Int) ((M : Int) - 1) = (O : Int) := by
        rw [show ((M : Int) - 1) = ((M - 1 : Nat) : Int) by omega, bits_and_u64_nat _ _ lR' (by omega), hO]
      rw [← hRr] at cR
      have hNext : Calls Try.prog 77 #[.pointer (some ⟨w.heap.size, 0, none⟩)] wr fun e w' => e = .returned (.int .u64 (R' : Int)) ∧ w' = (wr.setCell ⟨w.heap.size, 0, none⟩ (.int .u64 (R' : Int))).drewN 3 := by
        rw [hR']; exact AnyF.xorshift_Next Try.xnext _ _ R0 lR wr cR fR
      have HN : Hid (R' = (xorNext r).toNat ∧ O = (xorNext r).toNat &&& (M - 1)) := by
        have e : R' = (xorNext r).toNat := by rw [hR', hRr, xorNext_toNat]
        exact ⟨e, by rw [hO, e]⟩
      clear hRr hR' hO
      have S2 : Hid (SW w0 blk off n dk ((wr.setCell ⟨w.heap.size, 0, none⟩ (.int .u64 (R' : Int))).drewN 3)) := Lib.hid { S1.out with now := (S1.out.now.setCell_new w.heap.size 0 (.int .u64 (R' : Int)) hle0).drewN 3 }
      have cR' : ((wr.setCell ⟨w.heap.size, 0, none⟩ (.int .u64 (R' : Int))).drewN 3).cell? ⟨w.heap.size, 0, none⟩ = some (.int .u64 (R' : Int)) := by
        rw [World.cell?_drewN]; exact World.cell?_setCell_same _ _ _ cR
      have fR' : ((wr.setCell ⟨w.heap.size, 0, none⟩ (.int .u64 (R' : Int))).drewN 3).frozen? ⟨w.heap.size, 0, none⟩ = false := by
        rw [World.frozen?_drewN]; simpa using fR
      generalize (wr.setCell ⟨w.heap.size, 0, none⟩ (.int .u64 (R' : Int))).drewN 3 = w2 at hNext S2 cR' fR'
      have HN2 := Lib.hid hNext
      clear cR fR S1 hNext
      by_cases hLO : L ≤ O
      · have hLOz : (L : Int) ≤ (O : Int) := by omega
        skip
        go_wp2_with fail
        refine HN2.out.mono ?_
        rintro e w' ⟨rfl, hw'⟩
        obtain rfl : w2 = w' := hw'.symm
        have q28ia : ((a : Int) + (L : Int) / 4 * 2 - 1 + (t : Int)).toNat = a + L / 4 * 2 - 1 + t := by omega
        have q28ib : 0 ≤ ((a : Int) + (L : Int) / 4 * 2 - 1 + (t : Int)) := by omega
        have q28ic : ((a : Int) + (L : Int) / 4 * 2 - 1 + (t : Int)) < (n : Int) := by omega
        have q28id : IntKind.i64.wrap ((a : Int) + (L : Int) / 4 * 2 - 1 + (t : Int)) = (a : Int) + (L : Int) / 4 * 2 - 1 + (t : Int) := by rw [IntKind.wrap_i64]; omega
        have q28ka : ((a : Int) + ((O : Int) - (L : Int))).toNat = a + (O - L) := by omega
        have q28kb : 0 ≤ ((a : Int) + ((O : Int) - (L : Int))) := by omega
        have q28kc : ((a : Int) + ((O : Int) - (L : Int))) < (n : Int) := by omega
        have q28kd : IntKind.i64.wrap ((a : Int) + ((O : Int) - (L : Int))) = (a : Int) + ((O : Int) - (L : Int)) := by rw [IntKind.wrap_i64]; omega
        obtain ⟨q28x, q28y, q281, q282, q283, q284, q285, q286, q287, q288, ⟨q28u, q289⟩, ⟨q28v, q2810⟩, ⟨q28w, q2811⟩, q28S⟩ := S2.out.swaps (a + L / 4 * 2 - 1 + t) (a + (O - L)) (by omega) (by omega)
        have S3 := Lib.hid q28S
        clear q28S S2
        go_wp2_with fail
        go_big_region
        have k1 := kept_swap (W := w2) (blk := blk) hne cR' fR' (off + (a + L / 4 * 2 - 1 + t) * 2) (off + (a + (O - L)) * 2) q28x q28y
        clear q281 q282 q283 q284 q285 q286 q287 q288 q289 q2810 q2811 q28ia q28ib q28ic q28id q28ka q28kb q28kc q28kd
        generalize ((((w2.setCell ⟨blk, off + (a + L / 4 * 2 - 1 + t) * 2, none⟩ (.int .i64 q28y.1)).setCell ⟨blk, off + (a + L / 4 * 2 - 1 + t) * 2 + 1, none⟩ (.int .i64 q28y.2)).setCell ⟨blk, off + (a + (O - L)) * 2, none⟩ (.int .i64 q28x.1)).setCell ⟨blk, off + (a + (O - L)) * 2 + 1, none⟩ (.int .i64 q28x.2)).drew = w3 at S3 k1 ⊢
        clear HN2
        go_wp2
        go_roundg (3 - (t + 1))
        case measure => omega
        case rel => exact ⟨t + 1, xorNext r, swp dk (a + L / 4 * 2 - 1 + t) (a + (O - L)), by congr 1; push_cast; omega, by omega, Nat.le_refl _, S3, by rw [← HN.out.1]; exact k1.1, k1.2,
          (show Hid _ from by rw [← HR.out, bp_step a L M _ t r dk (O - L) ht3 (by rw [← HN.out.2, if_pos (by omega)])]; exact rfl)⟩
      · have hLOz : ¬ (L : Int) ≤ (O : Int) := by omega
        skip
        go_wp2_with fail
        refine HN2.out.mono ?_
        rintro e w' ⟨rfl, hw'⟩
        obtain rfl : w2 = w' := hw'.symm
        have q29ia : ((a : Int) + (L : Int) / 4 * 2 - 1 + (t : Int)).toNat = a + L / 4 * 2 - 1 + t := by omega
        have q29ib : 0 ≤ ((a : Int) + (L : Int) / 4 * 2 - 1 + (t : Int)) := by omega
        have q29ic : ((a : Int) + (L : Int) / 4 * 2 - 1 + (t : Int)) < (n : Int) := by omega
        have q29id : IntKind.i64.wrap ((a : Int) + (L : Int) / 4 * 2 - 1 + (t : Int)) = (a : Int) + (L : Int) / 4 * 2 - 1 + (t : Int) := by rw [IntKind.wrap_i64]; omega
        have q29ka : ((a : Int) + (O : Int)).toNat = a + O := by omega
        have q29kb : 0 ≤ ((a : Int) + (O : Int)) := by omega
        have q29kc : ((a : Int) + (O : Int)) < (n : Int) := by omega
        have q29kd : IntKind.i64.wrap ((a : Int) + (O : Int)) = (a : Int) + (O : Int) := by rw [IntKind.wrap_i64]; omega
        obtain ⟨q29x, q29y, q291, q292, q293, q294, q295, q296, q297, q298, ⟨q29u, q299⟩, ⟨q29v, q2910⟩, ⟨q29w, q2911⟩, q29S⟩ := S2.out.swaps (a + L / 4 * 2 - 1 + t) (a + O) (by omega) (by omega)
        have S3 := Lib.hid q29S
        clear q29S S2
        go_wp2_with fail
        go_big_region
        have k1 := kept_swap (W := w2) (blk := blk) hne cR' fR' (off + (a + L / 4 * 2 - 1 + t) * 2) (off + (a + O) * 2) q29x q29y
        clear q291 q292 q293 q294 q295 q296 q297 q298 q299 q2910 q2911 q29ia q29ib q29ic q29id q29ka q29kb q29kc q29kd
        generalize ((((w2.setCell ⟨blk, off + (a + L / 4 * 2 - 1 + t) * 2, none⟩ (.int .i64 q29y.1)).setCell ⟨blk, off + (a + L / 4 * 2 - 1 + t) * 2 + 1, none⟩ (.int .i64 q29y.2)).setCell ⟨blk, off + (a + O) * 2, none⟩ (.int .i64 q29x.1)).setCell ⟨blk, off + (a + O) * 2 + 1, none⟩ (.int .i64 q29x.2)).drew = w3 at S3 k1 ⊢
        clear HN2
        go_wp2
        go_roundg (3 - (t + 1))
        case measure => omega
        case rel => exact ⟨t + 1, xorNext r, swp dk (a + L / 4 * 2 - 1 + t) (a + O), by congr 1; push_cast; omega, by omega, Nat.le_refl _, S3, by rw [← HN.out.1]; exact k1.1, k1.2,
          (show Hid _ from by rw [← HR.out, bp_step a L M _ t r dk (O) ht3 (by rw [← HN.out.2, if_neg (by omega)])]; exact rfl)⟩
    · obtain rfl : t = 3 := by omega
      have hle : ¬ ((a : Int) + (L : Int) / 4 * 2 - 1 + ((3 : Nat) : Int) ≤ (a : Int) + (L : Int) / 4 * 2 + 1) := by omega
      go_wp2
      go_end0
      refine ⟨rfl, ?_⟩
      rw [← HR.out]
      exact S1.out

set_option maxHeartbeats 2000000 in
theorem break_t (w0 w : World) (blk off n cap a b : Nat) (d : Array Edge) (S : SW w0 blk off n d w) (hab : a ≤ b) (hb : b ≤ n) :
    Calls Try.prog 68 #[.slice (some ⟨blk, off, none⟩) n cap, .int .i64 a, .int .i64 b, ofV] w fun e w' => e = .returned (.tuple #[]) ∧ SW w0 blk off n (breakPatterns d a b) w' := by
  obtain ⟨L, rfl⟩ : ∃ L, b = a + L := ⟨b - a, by omega⟩
  by_cases h8 : 8 ≤ L
  · exact break_go w0 w blk off n cap a L d S hb h8
  · have hv : breakPatterns d a (a + L) = d := by unfold breakPatterns; simp only [Nat.add_sub_cancel_left]; rw [if_neg h8]
    rw [hv]
    have hn := S.small
    have hLz : ((a : Int) + (L : Int) - (a : Int)) = (L : Int) := by omega
    have h8z : ¬ (8 : Int) ≤ (L : Int) := by omega
    have S0 := Lib.hid S
    clear S
    go_enter Try.func68, Try.ntmps68
    go_wp2
    go_end0
    exact ⟨rfl, S0.out⟩

end Go.Proofs.Ytgmgofcclddkiaa
