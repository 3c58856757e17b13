/- The reference's buffer: Put. -/
import Derived.Test.YtgmgofcclddkiaaRiv
import Derived.BigQuiet
import Derived.Deep.RegionHeld3
import Derived.Deep.CutBlock
namespace Go.Proofs.Ytgmgofcclddkiaa
open Go.RowKit Go.Maps Go.WideShapes

theorem texts_take_yes {L : Things} {k : Nat} {i : Int} {t : ByteArray} (h : L[k]? = some (i, t)) : (texts (L.take (k + 1)) i).length = (texts (L.take k) i).length + 1 := by
  rw [take_snoc h, texts_snoc, if_pos rfl]; simp
theorem texts_take_no {L : Things} {k : Nat} {i j : Int} {t : ByteArray} (h : L[k]? = some (i, t)) (hn : i ≠ j) : (texts (L.take (k + 1)) j).length = (texts (L.take k) j).length := by
  rw [take_snoc h, texts_snoc, if_neg hn]

theorem flat_one : ∀ (L : Things), ∀ u ∈ flat L, u.oneCell' = true
  | [], u, h => by simp [flat] at h
  | q :: r, u, h => by
    have e : flat (q :: r) = .int .i64 q.1 :: .string q.2 :: flat r := rfl
    rw [e] at h
    rcases List.mem_cons.1 h with rfl | h
    · rfl
    · rcases List.mem_cons.1 h with rfl | h
      · rfl
      · exact flat_one r u h
theorem Ref.dropped {w w1 : World} {q each room : Nat} {L : Things} {dr : Int} {v : Value} (h : Ref w q each room L dr v) (hb : Below w.heap.size w w1) : Ref (w1.setCell ⟨q, 2, none⟩ (.int .i64 (dr + 1))) q each room L (dr + 1) v := by
  have hq := (Array.getElem?_eq_some_iff.1 h.1).1
  refine ⟨ref_set2 ((hb.block q hq).trans h.1), row_keep h.2 (fun k hk => ?_)⟩
  have hne := row_ne_cells h.2 h.1 (by decide)
  rw [Below.heap_setCell _ _ _ _ (fun e => hne (by subst e; simpa [blockOf, eq_comm] using hk))]
  exact hb.block k (row_lt h.2 k hk).2
theorem putE_no {each room : Nat} {L : Things} {i : Int} {t : ByteArray} (hi : ¬ i < 1) (ht : hasT L i t = false) : putE each room L i t = if hasI L i = true then (if (texts L i).length < each then 0 else 4) else (if (ivs L).length < room then 0 else 4) := by
  unfold putE; rw [if_neg hi, if_neg (by rw [ht]; simp)]

def RPutP (w : World) (q each room : Nat) (L : Things) (dr : Int) (v : Value) (i : Int) (t : ByteArray) (e : Ending) (w' : World) : Prop :=
  e = .returned (.int .i64 (putE each room L i t)) ∧ ∃ v', Ref w' q each room (putL each room L i t) (putD each room L i t dr) v' ∧ (v' = v ∨ ∀ k ∈ blockOf v', w.heap.size ≤ k) ∧ Turned (fun k => k = q) w w'

set_option maxRecDepth 100000 in
set_option maxHeartbeats 8000000 in
theorem rput_any {w : World} {q each room : Nat} {L : Things} {dr : Int} {v : Value} (h : Ref w q each room L dr v) (hL : L.length < 1000000) (h1 : 1 ≤ each) (h2 : each ≤ 64) (hd1 : 0 ≤ dr) (hd2 : dr < 1000000) (i : Int) (t : ByteArray) :
    Calls Try.prog 18 #[.pointer (some ⟨q, 0, none⟩), .int .i64 i, .string t] w (RPutP w q each room L dr v i t) := by
  by_cases hi : i < 1
  · have e0 : putE each room L i t = 1 := by unfold putE; rw [if_pos hi]
    have e1 : putL each room L i t = L := by unfold putL; rw [e0]; rfl
    have e2 : putD each room L i t dr = dr := by unfold putD; rw [e0]; rfl
    have H := Lib.hid h
    have HP : Hid (RPutP w q each room L dr v i t (.returned (.int .i64 1)) w) := by
      show RPutP _ _ _ _ _ _ _ _ _ _ _
      refine ⟨by rw [e0], v, by rw [e1, e2]; exact h, .inl rfl, Turned.refl _ _⟩
    clear h e0 e1 e2
    go_enter Try.func18, Try.ntmps18
    go_wp2
    go_ret
    exact HP.out
  · obtain ⟨a, cap, rfl, hc⟩ := h.cells
    have hq := (Array.getElem?_eq_some_iff.1 h.1).1
    have hg := (row_lt h.2)
    have HC := Lib.hid hc
    have c0 := cell_of h.1 0
    have c1 := cell_of h.1 1
    have c2 := cell_of h.1 2
    have c3 := cell_of h.1 3
    have f2 := frozen_of h.1 2
    have f3 := frozen_of h.1 3
    have HG := Lib.hid hg
    have H := Lib.hid h
    have HIV := Lib.hid (rivs_any h hL)
    obtain ⟨i0, hi0⟩ : ∃ i, Try.prog.info? 77 = some i := ⟨_, rfl⟩
    have hy0 : i0.zero = some (.agg #[.int .i64 0, .string ByteArray.empty]) := by cases hi0; rfl
    have hy1 : i0.size = 2 := by cases hi0; rfl
    have hy2 : i0.bytes = 24 := by cases hi0; rfl
    have HI := Lib.hid hi0
    clear h hc hi0 hg
    go_enter Try.func18, Try.ntmps18
    go_wp2
    go_loopw [7, 8] (fun nv ix wr => ∃ k n : Nat, k ≤ L.length ∧ ix = .int .i64 k ∧ wr = w ∧ nv = .int .i64 n ∧ n = (texts (L.take k) i).length ∧ n ≤ k ∧ ∀ j, j < k → L[j]? ≠ some (i, t)) (fun _ ix _ => L.length - (intOf ix).toNat)
    case atStart => exact ⟨0, 0, Nat.zero_le _, rfl, rfl, rfl, rfl, by omega, fun j hj => by omega⟩
    case round =>
      obtain ⟨k, n, hk, rfl, rfl, rfl, hn, hnk, hno⟩ := hrel
      have HNO := Lib.hid hno
      have HN := Lib.hid hn
      clear hno hn
      by_cases hlt : k < L.length
      · obtain ⟨g, rfl, hcc⟩ := HC.out (by omega)
        obtain ⟨i', t', hit⟩ : ∃ i' t', L[k]? = some (i', t') := ⟨L[k].1, L[k].2, by simp [hlt]⟩
        obtain ⟨d1, d2⟩ := hcc k i' t' hit
        have HIT := Lib.hid hit
        clear hcc hit
        by_cases h1 : i' = i
        · by_cases h2 : t' = t
          · subst h1 h2
            have e0 : putE each room L i' t' = 11 := by
              unfold putE
              rw [if_neg (by omega), if_pos ((hasT_iff L i' t').2 (List.mem_of_getElem? HIT.out))]
            have e1 : putL each room L i' t' = L := by unfold putL; rw [e0]; rfl
            have e2 : putD each room L i' t' dr = dr := by unfold putD; rw [e0]; rfl
            have HP : Hid (RPutP wr q each room L dr (.slice (some ⟨g, 0, none⟩) L.length cap) i' t' (.returned (.int .i64 11)) wr) := by
              show RPutP _ _ _ _ _ _ _ _ _ _ _
              refine ⟨by rw [e0], _, by rw [e1, e2]; exact H.out, .inl rfl, Turned.refl _ _⟩
            clear e0 e1 e2
            go_wp2
            go_ret
            exact HP.out
          · have h2' : (t'.toList == t.toList) = false := by rw [beq_eq_false_iff_ne, ByteArray.toList_eq, ByteArray.toList_eq]; exact fun e => h2 (toList_inj e)
            subst h1
            have hne : (i', t') ≠ (i', t) := fun e => h2 (by injection e)
            clear h2
            go_wp2
            go_roundw
            case rel => exact ⟨k + 1, n + 1, by omega, by go_num, trivial, by go_num, by rw [texts_take_yes HIT.out, HN.out], by omega, none_step HNO.out HIT.out hne⟩
            case measure => simp [intOf]; omega
        · have h1' : (i' == i) = false := by simpa using h1
          have hne : (i', t') ≠ (i, t) := fun e => h1 (by injection e)
          have HTN := Lib.hid (texts_take_no HIT.out h1)
          clear h1
          go_wp2
          go_roundw
          case rel => exact ⟨k + 1, n, by omega, by go_num, trivial, by go_num, by rw [HTN.out, HN.out], by omega, none_step HNO.out HIT.out hne⟩
          case measure => simp [intOf]; omega
      · have hke : k = L.length := by omega
        subst hke
        rw [List.take_length] at HN
        have hpe := putE_no (each := each) (room := room) (by omega) (none_all HNO.out)
        have hni : n = 0 ↔ hasI L i = false := by
          constructor
          · intro h0
            rw [Bool.eq_false_iff]
            intro hh
            have := texts_pos hh
            have := HN.out
            omega
          · intro hf
            rw [HN.out, texts_no (by rw [hf]; simp)]; rfl
        rw [← HN.out] at hpe
        have HPE := Lib.hid hpe
        have HNI := Lib.hid hni
        clear hpe hni HNO
        go_upto_region 11 with (fail)
        go_cut [73] from 54 (fun bv wc => bv = .bool (decide (putE each room L i t = 4)) ∧ Below wr.heap.size wr wc)
        case first =>
          by_cases hc1 : (each : Int) ≤ n
          · have hp : putE each room L i t = 4 := by
              rw [HPE.out, if_pos (by rw [← Bool.not_eq_false]; exact fun hf => by have := HNI.out.2 hf; omega), if_neg (by omega)]
            have HP := Lib.hid hp
            clear hp
            go_quiet (fail)
            go_wp2
            go_meet
            case rel => exact ⟨by rw [HP.out]; rfl, ⟨rfl, rfl, rfl, Nat.le_refl _, fun _ _ => rfl⟩⟩
          · by_cases hc2 : n = 0
            · have hp : putE each room L i t = if (ivs L).length < room then 0 else 4 := by
                rw [HPE.out, if_neg (by rw [HNI.out.1 hc2]; simp)]
              have HP := Lib.hid hp
              obtain ⟨ni, hnn⟩ : ∃ ni, ni = (ivs L).length := ⟨_, rfl⟩
              have HNN := Lib.hid hnn
              have HIVD := Lib.hid (rivs_any (H.out.keep (w' := wr.drew) rfl (fun _ _ => rfl)) hL)
              have c0' : wr.drew.cell? ⟨q, 0, none⟩ = some (.int .i64 each) := c0
              have c1' : wr.drew.cell? ⟨q, 1, none⟩ = some (.int .i64 room) := c1
              subst hc2
              have he0 : ¬ each = 0 := by omega
              have he1 : ¬ ((each : Int) ≤ 0) := by omega
              have he2 : ¬ ((each : Int) ≤ ((0 : Nat) : Int)) := by omega
              have he3 : (each == 0) = false := by simpa using he0
              clear hp hnn
              go_region_held3 (fun w' => w'.cell? ⟨q, 0, none⟩ = some (.int .i64 each) ∧ w'.cell? ⟨q, 1, none⟩ = some (.int .i64 room)) ((refine ⟨?_, ?_⟩ <;> assumption)) ((
                go_at_call 25
                refine HIVD.out.mono ?_
                rintro e' w5 ⟨u5, rfl, hrow5, hb5⟩
                obtain ⟨a5, c5, rfl⟩ := row_form hrow5
                have c05 : w5.cell? ⟨q, 0, none⟩ = some (.int .i64 each) := (hb5.cell (p := ⟨q, 0, none⟩) hq).trans c0
                have c15 : w5.cell? ⟨q, 1, none⟩ = some (.int .i64 room) := (hb5.cell (p := ⟨q, 1, none⟩) hq).trans c1
                have HB5 := Lib.hid hb5
                clear hrow5 hb5))
              go_wp2
              go_meet
              case rel =>
                refine ⟨?_, ⟨HB5.out.os, HB5.out.tape, HB5.out.output, HB5.out.size, HB5.out.block⟩⟩
                rw [HP.out]
                by_cases hr : (ivs L).length < room
                · rw [if_pos hr]; simp; omega
                · rw [if_neg hr]; simp; omega
            · have hp : putE each room L i t = 0 := by
                rw [HPE.out, if_pos (by rw [← Bool.not_eq_false]; exact fun hf => hc2 (HNI.out.2 hf)), if_pos (by omega)]
              have HP := Lib.hid hp
              have hz : ((n : Int) == 0) = false := by simp; omega
              clear hp
              go_quiet (fail)
              go_wp2
              go_meet
              case rel => exact ⟨by rw [HP.out]; rfl, ⟨rfl, rfl, rfl, Nat.le_refl _, fun _ _ => rfl⟩⟩
        case rest =>
          obtain ⟨rfl, hbel⟩ := hcut
          have HB := Lib.hid hbel
          by_cases h4 : putE each room L i t = 4
          · have e1 : putL each room L i t = L := by unfold putL; rw [h4]; rfl
            have e2 : putD each room L i t dr = dr + 1 := by unfold putD; rw [h4]; rfl
            have HP : Hid (RPutP wr q each room L dr (.slice a L.length cap) i t (.returned (.int .i64 4)) (wc.setCell ⟨q, 2, none⟩ (.int .i64 (dr + 1)))) := by
              show RPutP _ _ _ _ _ _ _ _ _ _ _
              exact ⟨by rw [h4], _, by rw [e1, e2]; exact H.out.dropped hbel, .inl rfl, ref_turn hbel _ _⟩
            have hb4 : decide (putE each room L i t = 4) = true := by simp [h4]
            rw [hb4]
            have c2' := (hbel.cell (p := ⟨q, 2, none⟩) hq).trans c2
            have f2' := (hbel.frozen (p := ⟨q, 2, none⟩) hq).trans f2
            clear hbel h4 e1 e2 hb4
            go_wp2
            go_ret
            exact HP.out
          · have h0 : putE each room L i t = 0 := by
              have := HPE.out
              revert this
              split <;> split <;> omega
            have e1 : putL each room L i t = L ++ [(i, t)] := by unfold putL; rw [if_pos h0]
            have e2 : putD each room L i t dr = dr := by unfold putD; rw [if_neg h4]
            have hb4 : decide (putE each room L i t = 4) = false := by simp [h4]
            rw [hb4]
            have HP : Hid (∀ w6 v6, Below wr.heap.size wr w6 → w6.ownsRow wr.heap.size 77 2 v6 (L.length + 1) (flat L ++ [.int .i64 i, .string t]) → RPutP wr q each room L dr (.slice a L.length cap) i t (.returned (.int .i64 0)) (w6.setCell ⟨q, 3, none⟩ v6)) := by
              intro w6 v6 hb6 hr6
              refine ⟨by rw [h0], v6, by rw [e1, e2]; exact H.out.lay hb6 (by rw [flat_snoc, List.length_append]; exact hr6), .inr (fun k hk => (row_lt hr6 k hk).1), ref_turn hb6 _ _⟩
            have c3' := (hbel.cell (p := ⟨q, 3, none⟩) hq).trans c3
            have f3' := (hbel.frozen (p := ⟨q, 3, none⟩) hq).trans f3
            have hzc := hbel.size
            have hqc : q < wc.heap.size := by omega
            have hm1 : L.length + 1 ≤ maxLen := by unfold maxLen; omega
            have hm0 : 0 + L.length ≤ maxLen := by unfold maxLen; omega
            have hmade : (wc.alloc (Obj.cells #[] 77)).ownsRow wr.heap.size 77 2 (.slice (some ⟨wc.heap.size, 0, none⟩) 0 0) 0 [] := by
              simpa using World.ownsRow_made (base := wr.heap.size) (size := 2) (e := 77) wc #[] 0 hzc (Nat.zero_le _) rfl
            have HMA := Lib.hid hmade
            clear hbel h4 h0 e1 e2 hb4 hmade
            cases a with
            | none =>
              have hL0 : L = [] := by
                rcases H.out.2.2 with ⟨_, hn⟩ | ⟨g, cap', cur, hv, _⟩
                · exact List.eq_nil_of_length_eq_zero hn
                · cases hv
              subst hL0
              have hms : 0 + 1 ≤ maxLen := by decide
              go_wp2_with (at_builtin; refine wpList_append_own_at _ rfl _ _ 42 rfl wr.heap.size 77 i0 (.agg #[.int .i64 0, .string ByteArray.empty]) 2 24 Try.underlying42 HI.out hy0 hy1 hy2 rfl (by decide) _ 0 [] rfl (HMA.out.alloc _) ⟨wc.heap.size + 1, 0, none⟩ 1 1 [.int .i64 i, .string t] rfl rfl (by have := cell_two_new (wc.alloc (Obj.cells #[] 77)) (.int .i64 i) (.string t) 77; rw [World.size_alloc] at this; exact this) (fun u hu => by simp at hu; rcases hu with rfl | rfl <;> rfl) hms (by omega) (by simp only [World.size_alloc]; omega) ?_; intro v6 w6 hown' hgrow _ hloc; obtain ⟨a6, c6, rfl⟩ := row_form hown'; have hzd : wr.heap.size ≤ (wc.alloc (Obj.cells #[] 77)).heap.size := (by simp only [World.size_alloc]; omega); have hze : wr.heap.size ≤ ((wc.alloc (Obj.cells #[] 77)).alloc (Obj.cells #[.int .i64 i, .string t] 77)).heap.size := (by simp only [World.size_alloc]; omega); have HB6 := Lib.hid (((HB.out.alloc hzc (Obj.cells #[] 77)).alloc hzd (Obj.cells #[.int .i64 i, .string t] 77)).grown hgrow hze (fun j e => ((HMA.out.alloc (Obj.cells #[.int .i64 i, .string t] 77)).lt j e).1)); have HO6 := Lib.hid hown'; have c36 := (HB6.out.cell (p := ⟨q, 3, none⟩) hq).trans c3; have f36 := (HB6.out.frozen (p := ⟨q, 3, none⟩) hq).trans f3; clear hown' hgrow hloc)
              go_ret
              exact HP.out _ _ HB6.out HO6.out
            | some ad =>
              have hnews : ∀ j u, (flat L)[j]? = some u → (wc.alloc (Obj.cells #[] 77)).cell? (ad.add j) = some u := by
                intro j u hj
                rcases H.out.2.2 with ⟨hv, _⟩ | ⟨g, cap', cur, hv, _⟩
                · cases hv
                · have hgl := HG.out ad.block (by simp [blockOf, Value.ownBlock])
                  simp only [Value.slice.injEq, Option.some.injEq] at hv
                  obtain ⟨rfl, _, _⟩ := hv
                  have := H.out.2.cells (g := g) rfl j u hj
                  rw [← this]
                  refine World.cell?_of_block ?_
                  have hbk : ((⟨g, 0, none⟩ : Addr).add j).block = g := by rw [add_none]
                  rw [hbk, (MapKept.heap_alloc wc _).2 g (by have := hgl.2; simp at this; omega)]
                  exact HB.out.block g hgl.2
              have HNW := Lib.hid hnews
              clear hnews
              go_wp2_with (first
                | (at_builtin; refine wpList_append_own_at _ rfl _ _ 42 rfl wr.heap.size 77 i0 (.agg #[.int .i64 0, .string ByteArray.empty]) 2 24 Try.underlying42 HI.out hy0 hy1 hy2 rfl (by decide) _ 0 [] rfl HMA.out ad L.length cap (flat L) rfl (flat_len L) HNW.out (flat_one L) hm0 (by omega) (by simp only [World.size_alloc]; omega) ?_; intro v5 w5 hown' hgrow _ hloc; rw [Nat.zero_add, List.nil_append] at hown'; obtain ⟨a5, c5, rfl⟩ := row_form hown'; have HB5 := Lib.hid ((HB.out.alloc hzc (Obj.cells #[] 77)).grown hgrow (by simp only [World.size_alloc]; omega) (fun j e => (HMA.out.lt j e).1)); have hz5 := HB5.out.size; have HO5 := Lib.hid hown'; clear hown' hgrow hloc)
                | (at_builtin; refine wpList_append_own_at _ rfl _ _ 42 rfl wr.heap.size 77 i0 (.agg #[.int .i64 0, .string ByteArray.empty]) 2 24 Try.underlying42 HI.out hy0 hy1 hy2 rfl (by decide) _ _ _ rfl (HO5.out.alloc _) ⟨w5.heap.size, 0, none⟩ 1 1 [.int .i64 i, .string t] rfl rfl (cell_two_new _ _ _ _) (fun u hu => by simp at hu; rcases hu with rfl | rfl <;> rfl) hm1 (by omega) (by simp only [World.size_alloc]; omega) ?_; intro v6 w6 hown' hgrow _ hloc; obtain ⟨a6, c6, rfl⟩ := row_form hown'; have hze : wr.heap.size ≤ (w5.alloc (Obj.cells #[.int .i64 i, .string t] 77)).heap.size := (by simp only [World.size_alloc]; omega); have HB6 := Lib.hid ((HB5.out.alloc hz5 (Obj.cells #[.int .i64 i, .string t] 77)).grown hgrow hze (fun j e => ((HO5.out.alloc (Obj.cells #[.int .i64 i, .string t] 77)).lt j e).1)); have HO6 := Lib.hid hown'; have c36 := (HB6.out.cell (p := ⟨q, 3, none⟩) hq).trans c3; have f36 := (HB6.out.frozen (p := ⟨q, 3, none⟩) hq).trans f3; clear hown' hgrow hloc))
              go_ret
              exact HP.out _ _ HB6.out HO6.out
end Go.Proofs.Ytgmgofcclddkiaa
