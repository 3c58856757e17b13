/- The reference's buffer: Intervals. -/
import Derived.Test.YtgmgofcclddkiaaRtd
namespace Go.Proofs.Ytgmgofcclddkiaa
open Go.RowKit Go.Maps Go.WideShapes

theorem insI_app_lt {x : Int} : ∀ {a b : List Int}, (∀ z ∈ a, z < x) → insI x (a ++ b) = a ++ insI x b
  | [], b, _ => rfl
  | z :: r, b, h => by
    have hz := h z (by simp)
    simp only [List.cons_append, insI]
    rw [if_neg (by omega), if_neg (by omega), insI_app_lt (fun y hy => h y (by simp [hy]))]
theorem insI_app_ge {x : Int} : ∀ {a b : List Int}, (∃ z ∈ a, x ≤ z) → insI x (a ++ b) = insI x a ++ b
  | [], b, h => by simp at h
  | z :: r, b, h => by
    simp only [List.cons_append, insI]
    by_cases h1 : x < z
    · rw [if_pos h1, if_pos h1]; rfl
    · rw [if_neg h1, if_neg h1]
      by_cases h2 : x = z
      · rw [if_pos h2, if_pos h2]; rfl
      · rw [if_neg h2, if_neg h2, List.cons_append, insI_app_ge]
        obtain ⟨y, hy, hxy⟩ := h
        rcases List.mem_cons.1 hy with rfl | hy
        · omega
        · exact ⟨y, hy, hxy⟩
/-- x among the first of out: is it in, and what lies there -/
def insD (x : Int) (a : List Int) : Bool := a.any (fun z => decide (x ≤ z))
def insL (x : Int) (a : List Int) : List Int := if insD x a then insI x a else a
theorem insD_snoc (x : Int) (a : List Int) (y : Int) : insD x (a ++ [y]) = (insD x a || decide (x ≤ y)) := by simp [insD]
theorem insD_no {x : Int} {a : List Int} (h : insD x a = false) : ∀ z ∈ a, z < x := by
  intro z hz
  have := List.any_eq_false.1 h z hz
  simpa using this
theorem insD_yes {x : Int} {a : List Int} (h : insD x a = true) : ∃ z ∈ a, x ≤ z := by
  obtain ⟨z, hz, hx⟩ := List.any_eq_true.1 h
  exact ⟨z, hz, by simpa using hx⟩
theorem insL_done {x : Int} {a : List Int} (y : Int) (h : insD x a = true) : insL x (a ++ [y]) = insL x a ++ [y] := by
  unfold insL
  rw [insD_snoc, h, Bool.true_or, if_pos rfl, if_pos rfl, insI_app_ge (insD_yes h)]
theorem insL_new {x : Int} {a : List Int} {y : Int} (h : insD x a = false) (hy : x < y) : insL x (a ++ [y]) = (insL x a ++ [x]) ++ [y] := by
  unfold insL
  rw [insD_snoc, h, if_pos (by simp; omega), if_neg (by simp), insI_app_lt (insD_no h)]
  simp [insI, hy]
theorem insL_old {x : Int} {a : List Int} (h : insD x a = false) : insL x (a ++ [x]) = insL x a ++ [x] := by
  unfold insL
  rw [insD_snoc, h, if_pos (by simp), if_neg (by simp), insI_app_lt (insD_no h)]
  simp [insI]
theorem insL_past {x : Int} {a : List Int} {y : Int} (h : insD x a = false) (hy : ¬ x ≤ y) : insL x (a ++ [y]) = insL x a ++ [y] := by
  unfold insL
  rw [insD_snoc, h, if_neg (by simpa using hy), if_neg (by simp)]
theorem insL_end {x : Int} {a : List Int} (h : insD x a = true) : insL x a = insI x a := by unfold insL; rw [if_pos h]
theorem insL_end' {x : Int} {a : List Int} (h : insD x a = false) : insL x a ++ [x] = insI x a := by
  unfold insL; rw [if_neg (by rw [h]; simp)]
  have := insI_app_lt (b := []) (insD_no h)
  simpa [insI] using this.symm
theorem len_insI_le (x : Int) : ∀ a : List Int, (insI x a).length ≤ a.length + 1
  | [] => by simp [insI]
  | y :: r => by
    have := len_insI_le x r
    simp only [insI]
    split
    · simp
    · split
      · simp
      · simp; omega
theorem len_ivs_len (L : Things) : (ivs L).length ≤ L.length := by
  induction L using snoc_ind with
  | h0 => simp [ivs]
  | h1 L i t ih =>
    rw [ivs_snoc, List.length_append]
    have := len_insI_le i (ivs L)
    simp; omega
theorem insL_le (x : Int) (a : List Int) : (insL x a).length ≤ a.length + 1 := by
  unfold insL; split
  · exact len_insI_le x a
  · omega
theorem ivs_take_snoc {L : Things} {k : Nat} {q : Int × ByteArray} (h : L[k]? = some q) : ivs (L.take (k + 1)) = insI q.1 (ivs (L.take k)) := by
  rw [take_snoc h]; exact ivs_snoc _ q.1 q.2

structure Insing (w : World) (os ls : List Int) (o l : Value) (wr : World) : Prop where
  rowO : wr.ownsRow w.heap.size 3 1 o os.length (os.map (Value.int .i64))
  rowL : wr.ownsRow w.heap.size 3 1 l ls.length (ls.map (Value.int .i64))
  apart : ∀ k ∈ blockOf o, k ∉ blockOf l
  below : Below w.heap.size w wr
theorem Insing.drewN {w wr : World} {os ls : List Int} {o l : Value} (h : Insing w os ls o l wr) (q : Nat) : Insing w os ls o l (wr.drewN q) :=
  ⟨row_keep h.rowO (fun _ _ => rfl), row_keep h.rowL (fun _ _ => rfl), h.apart, ⟨h.below.os, h.below.tape, h.below.output, h.below.size, h.below.block⟩⟩
theorem Insing.cell {w wr : World} {os ls : List Int} {go n co j : Nat} {y : Int} {l : Value} (h : Insing w os ls (.slice (some ⟨go, 0, none⟩) n co) l wr) (hy : os[j]? = some y) : wr.cell? ⟨go, j, none⟩ = some (.int .i64 y) := by
  have hj := (List.getElem?_eq_some_iff.1 hy).1
  obtain ⟨g, cap, hv, _, _, hc⟩ := row_cells h.rowO (by omega)
  simp only [Value.slice.injEq, Option.some.injEq, Addr.mk.injEq] at hv
  obtain ⟨⟨rfl, _⟩, _⟩ := hv
  rw [hc j hj, List.getElem?_map, hy]; rfl
/-- the list grows by an append -/
theorem Insing.snoc {w wr w5 : World} {os ls : List Int} {o l v' : Value} {n : Nat} {x : Int} {ob : Obj} (h : Insing w os ls o l wr) (hn : n = ls.length)
    (hown : w5.ownsRow w.heap.size 3 1 v' (n + 1) (ls.map (Value.int .i64) ++ [.int .i64 x])) (hg : (wr.alloc ob).grownBy w5 l.ownBlock) (hlo : v'.ownBlock = l.ownBlock ∨ v'.ownBlock = some (wr.alloc ob).heap.size) : Insing w os (ls ++ [x]) o v' w5 := by
  subst hn
  have hz := h.below.size
  have hne : ∀ k ∈ blockOf o, some k ≠ l.ownBlock := fun k hk e => h.apart k hk (by simp [blockOf, ← e])
  refine ⟨?_, by rw [List.length_append, List.map_append]; exact hown, ?_, (h.below.alloc hz ob).grown hg (by simp; omega) (fun j e => ((h.rowL.alloc ob).lt j e).1)⟩
  · exact row_keep (h.rowO.alloc ob) (fun k hk => hg.block k (row_lt (h.rowO.alloc ob) k hk).2 (hne k hk))
  · intro k hk hk'
    have e : v'.ownBlock = some k := by simpa [blockOf] using hk'
    rcases hlo with h1 | h1
    · exact hne k hk (by rw [← h1, e])
    · rw [e] at h1
      injection h1 with h1
      have := (row_lt (h.rowO.alloc ob) k hk).2
      omega

set_option maxRecDepth 100000 in
set_option maxHeartbeats 8000000 in
theorem rivs_any {w : World} {q each room : Nat} {L : Things} {dr : Int} {v : Value} (h : Ref w q each room L dr v) (hL : L.length < 1000000) :
    Calls Try.prog 25 #[.pointer (some ⟨q, 0, none⟩)] w fun e w' => ∃ u, e = .returned u ∧ w'.ownsRow w.heap.size 3 1 u (ivs L).length ((ivs L).map (Value.int .i64)) ∧ Below w.heap.size w w' := by
  obtain ⟨a, cap, rfl, hc⟩ := h.cells
  have hq := (Array.getElem?_eq_some_iff.1 h.1).1
  have hg := (row_lt h.2)
  have HC := Lib.hid hc
  have c3 := cell_of h.1 3
  have HG := Lib.hid hg
  obtain ⟨i0, hi0⟩ : ∃ i, Try.prog.info? 3 = some i := ⟨_, rfl⟩
  have hz0 : i0.zero = some (.int .i64 0) := by cases hi0; rfl
  have hz1 : i0.size = 1 := by cases hi0; rfl
  have hz2 : i0.bytes = 8 := by cases hi0; rfl
  have HI := Lib.hid hi0
  clear h hc hi0 hg
  go_enter Try.func25, Try.ntmps25
  go_wp2
  go_loopw [3, 4] (fun o ix wr => ∃ k : Nat, k ≤ L.length ∧ ix = .int .i64 k ∧ wr.ownsRow w.heap.size 3 1 o (ivs (L.take k)).length ((ivs (L.take k)).map (Value.int .i64)) ∧ Below w.heap.size w wr) (fun _ ix _ => L.length - (intOf ix).toNat)
  case atStart =>
    have r1 := World.ownsRow_made (base := w.heap.size) (size := 1) (e := 3) w #[] 0 (Nat.le_refl _) (Nat.zero_le _) rfl
    exact ⟨0, Nat.zero_le _, rfl, by simpa [ivs] using r1, (Below.refl _ _).alloc (Nat.le_refl _) _⟩
  case round =>
    obtain ⟨k, hk, rfl, hrow, hbel⟩ := hrel
    obtain ⟨ao, co, rfl⟩ := row_form hrow
    obtain ⟨os, hos⟩ : ∃ os, os = ivs (L.take k) := ⟨_, rfl⟩
    rw [← hos] at hrow ⊢
    have hol : os.length ≤ L.length := by rw [hos]; exact Nat.le_trans (len_ivs_len _) (List.length_take_le' _ _)
    have HR := Lib.hid hrow
    have HOS := Lib.hid hos
    have HB := Lib.hid hbel
    have c3' := (hbel.cell (p := ⟨q, 3, none⟩) hq).trans c3
    have hzr := hbel.size
    clear hrow hos hbel
    by_cases hlt : k < L.length
    · obtain ⟨g, rfl, hcc⟩ := HC.out (by omega)
      obtain ⟨x, t, hit⟩ : ∃ i t, L[k]? = some (i, t) := ⟨L[k].1, L[k].2, by simp [hlt]⟩
      have hgl := HG.out g (by simp [blockOf, Value.ownBlock])
      have d1 := (hcc k x t hit).1
      have HIT := Lib.hid hit
      clear hcc hit
      go_wp2
      go_loopw [5, 6, 7] (fun l dn ix wr' => ∃ j : Nat, j ≤ os.length ∧ ix = .int .i64 j ∧ dn = .bool (insD x (os.take j)) ∧ Insing w os (insL x (os.take j)) (.slice ao os.length co) l wr') (fun _ _ ix _ => os.length - (intOf ix).toNat)
      case atStart =>
        have r1 := World.ownsRow_made (base := w.heap.size) (size := 1) (e := 3) wr #[] 0 hzr (Nat.zero_le _) rfl
        refine ⟨0, Nat.zero_le _, rfl, rfl, ⟨HR.out.alloc _, by simpa [insL, insD] using r1, fun j hj => ?_, HB.out.alloc hzr _⟩⟩
        have := (row_lt HR.out j hj).2
        simp [blockOf, Value.ownBlock]; omega
      case round =>
        obtain ⟨j, hj, rfl, rfl, hins⟩ := hrel
        have c3'' := (hins.below.cell (p := ⟨q, 3, none⟩) hq).trans c3
        have d1'' := (hins.below.cell (p := ⟨g, k * 2, none⟩) hgl.2).trans d1
        obtain ⟨al, cl, rfl⟩ := row_form hins.rowL
        have hll := insL_le x (os.take j)
        rw [List.length_take] at hll
        obtain ⟨ls, hls⟩ : ∃ ls, ls = insL x (os.take j) := ⟨_, rfl⟩
        obtain ⟨dn, hdn⟩ : ∃ dn, dn = insD x (os.take j) := ⟨_, rfl⟩
        rw [← hls] at hins hll ⊢
        rw [← hdn]
        have HIN := Lib.hid hins
        have HLS := Lib.hid hls
        have HDN := Lib.hid hdn
        clear hins hls hdn c3 c3'
        by_cases hjt : j < os.length
        · obtain ⟨go, cap', hv, _, _, hco⟩ := row_cells HIN.out.rowO (by omega)
          simp only [Value.slice.injEq] at hv
          obtain ⟨rfl, _, rfl⟩ := hv
          obtain ⟨y, hy⟩ : ∃ y, os[j]? = some y := ⟨os[j], by simp [hjt]⟩
          have e1 := hco j hjt
          rw [List.getElem?_map, hy, Option.map_some] at e1
          have HY := Lib.hid hy
          have hmx : ls.length + 1 ≤ maxLen := by unfold maxLen; omega
          have hmx2 : ls.length + 1 + 1 ≤ maxLen := by unfold maxLen; omega
          have hzw := HIN.out.below.size
          clear hco hy
          by_cases hd : dn = true
          · subst hd
            go_wp2
            go_quiet (fail)
            go_wp2_with (at_builtin; refine wpList_append_own_at _ rfl _ _ 39 rfl w.heap.size 3 i0 (.int .i64 0) 1 8 Try.underlying39 HI.out hz0 hz1 hz2 rfl (by decide) _ _ _ rfl ((HIN.out.drewN _).rowL.alloc _) ⟨wr.heap.size, 0, none⟩ 1 1 [.int .i64 y] rfl rfl (cell_one_new _ _ _) (fun u hu => by simp at hu; subst hu; rfl) hmx (by omega) (by simp; omega) ?_; intro v5 w5 hown' hgrow _ hloc; have HOWN5 := Lib.hid hown'; have HG5 := Lib.hid hgrow; have HLO5 := Lib.hid hloc; clear hown' hgrow hloc)
            go_roundw
            case rel => exact ⟨j + 1, by omega, by go_num, by rw [take_snoc HY.out, insD_snoc, ← HDN.out]; rfl, by rw [take_snoc HY.out, insL_done y HDN.out.symm, ← HLS.out]; exact (HIN.out.drewN _).snoc rfl HOWN5.out HG5.out HLO5.out⟩
            case measure => simp [intOf]; omega
          · have hd' : dn = false := by simpa using hd
            subst hd'
            clear hd
            by_cases hxy : x ≤ y
            · by_cases hxy2 : x < y
              · go_wp2
                go_quiet (fail)
                go_wp2
                go_quiet (fail)
                go_wp2_with (first
                  | (at_builtin; refine wpList_append_own_at _ rfl _ _ 39 rfl w.heap.size 3 i0 (.int .i64 0) 1 8 Try.underlying39 HI.out hz0 hz1 hz2 rfl (by decide) _ _ _ rfl ((HIN.out.drewN _).rowL.alloc _) ⟨wr.heap.size, 0, none⟩ 1 1 [.int .i64 x] rfl rfl (cell_one_new _ _ _) (fun u hu => by simp at hu; subst hu; rfl) hmx (by omega) (by simp; omega) ?_; intro v5 w5 hown' hgrow _ hloc; have HOWN5 := Lib.hid hown'; have HG5 := Lib.hid hgrow; have HLO5 := Lib.hid hloc; clear hown' hgrow hloc; obtain ⟨a5, c5, rfl⟩ := row_form HOWN5.out; have HIN5 := Lib.hid ((HIN.out.drewN _).snoc rfl HOWN5.out HG5.out HLO5.out); have e15 := HIN5.out.cell HY.out; have hz5 := HIN5.out.below.size; have e55 : (ls ++ [x]).length = ls.length + 1 := by simp)
                  | (at_builtin; refine wpList_append_own_at _ rfl _ _ 39 rfl w.heap.size 3 i0 (.int .i64 0) 1 8 Try.underlying39 HI.out hz0 hz1 hz2 rfl (by decide) _ _ _ rfl (HOWN5.out.alloc _) ⟨w5.heap.size, 0, none⟩ 1 1 [.int .i64 y] rfl rfl (cell_one_new _ _ _) (fun u hu => by simp at hu; subst hu; rfl) hmx2 (by omega) (by simp; omega) ?_; intro v6 w6 hown' hgrow _ hloc; have HOWN6 := Lib.hid hown'; have HG6 := Lib.hid hgrow; have HLO6 := Lib.hid hloc; clear hown' hgrow hloc))
                go_roundw
                case rel => exact ⟨j + 1, by omega, by go_num, by rw [take_snoc HY.out, insD_snoc, ← HDN.out]; simp [hxy], by rw [take_snoc HY.out, insL_new HDN.out.symm hxy2, ← HLS.out]; exact HIN5.out.snoc e55.symm (by rw [List.map_append]; exact HOWN6.out) HG6.out HLO6.out⟩
                case measure => simp [intOf]; omega
              · have hxe : x = y := by omega
                subst hxe
                go_wp2
                go_quiet (fail)
                go_wp2
                go_quiet (fail)
                go_wp2_with (at_builtin; refine wpList_append_own_at _ rfl _ _ 39 rfl w.heap.size 3 i0 (.int .i64 0) 1 8 Try.underlying39 HI.out hz0 hz1 hz2 rfl (by decide) _ _ _ rfl ((HIN.out.drewN _).rowL.alloc _) ⟨wr.heap.size, 0, none⟩ 1 1 [.int .i64 x] rfl rfl (cell_one_new _ _ _) (fun u hu => by simp at hu; subst hu; rfl) hmx (by omega) (by simp; omega) ?_; intro v5 w5 hown' hgrow _ hloc; have HOWN5 := Lib.hid hown'; have HG5 := Lib.hid hgrow; have HLO5 := Lib.hid hloc; clear hown' hgrow hloc)
                go_roundw
                case rel => exact ⟨j + 1, by omega, by go_num, by rw [take_snoc HY.out, insD_snoc, ← HDN.out]; simp, by rw [take_snoc HY.out, insL_old HDN.out.symm, ← HLS.out]; exact (HIN.out.drewN _).snoc rfl HOWN5.out HG5.out HLO5.out⟩
                case measure => simp [intOf]; omega
            · go_wp2
              go_quiet (fail)
              go_wp2_with (at_builtin; refine wpList_append_own_at _ rfl _ _ 39 rfl w.heap.size 3 i0 (.int .i64 0) 1 8 Try.underlying39 HI.out hz0 hz1 hz2 rfl (by decide) _ _ _ rfl ((HIN.out.drewN _).rowL.alloc _) ⟨wr.heap.size, 0, none⟩ 1 1 [.int .i64 y] rfl rfl (cell_one_new _ _ _) (fun u hu => by simp at hu; subst hu; rfl) hmx (by omega) (by simp; omega) ?_; intro v5 w5 hown' hgrow _ hloc; have HOWN5 := Lib.hid hown'; have HG5 := Lib.hid hgrow; have HLO5 := Lib.hid hloc; clear hown' hgrow hloc)
              go_roundw
              case rel => exact ⟨j + 1, by omega, by go_num, by rw [take_snoc HY.out, insD_snoc, ← HDN.out]; simp [hxy], by rw [take_snoc HY.out, insL_past HDN.out.symm (by omega), ← HLS.out]; exact (HIN.out.drewN _).snoc rfl HOWN5.out HG5.out HLO5.out⟩
              case measure => simp [intOf]; omega
        · have hje : j = os.length := by omega
          subst hje
          rw [List.take_length] at HLS HDN
          have hmx : ls.length + 1 ≤ maxLen := by unfold maxLen; omega
          have hzw := HIN.out.below.size
          have HEND := Lib.hid ((ivs_take_snoc HIT.out).trans (by rw [← HOS.out]) : ivs (L.take (k + 1)) = insI x os)
          by_cases hd : dn = true
          · subst hd
            go_wp2
            go_roundw
            case rel => exact ⟨k + 1, by omega, by go_num, by rw [HEND.out, ← insL_end HDN.out.symm, ← HLS.out]; exact HIN.out.rowL, HIN.out.below⟩
            case measure => simp [intOf]; omega
          · have hd' : dn = false := by simpa using hd
            subst hd'
            clear hd
            go_wp2_with (at_builtin; refine wpList_append_own_at _ rfl _ _ 39 rfl w.heap.size 3 i0 (.int .i64 0) 1 8 Try.underlying39 HI.out hz0 hz1 hz2 rfl (by decide) _ _ _ rfl (HIN.out.rowL.alloc _) ⟨wr.heap.size, 0, none⟩ 1 1 [.int .i64 x] rfl rfl (cell_one_new _ _ _) (fun u hu => by simp at hu; subst hu; rfl) hmx (by omega) (by simp; omega) ?_; intro v5 w5 hown' hgrow _ hloc; have HOWN5 := Lib.hid hown'; have HG5 := Lib.hid hgrow; have HLO5 := Lib.hid hloc; clear hown' hgrow hloc)
            go_roundw
            case rel =>
              have hs := HIN.out.snoc rfl HOWN5.out HG5.out HLO5.out
              exact ⟨k + 1, by omega, by go_num, by rw [HEND.out, ← insL_end' HDN.out.symm, ← HLS.out]; exact hs.rowL, hs.below⟩
            case measure => simp [intOf]; omega
    · have hke : k = L.length := by omega
      subst hke
      rw [List.take_length] at HOS
      go_wp2
      go_ret
      exact ⟨_, rfl, HOS.out ▸ HR.out, HB.out⟩
end Go.Proofs.Ytgmgofcclddkiaa
