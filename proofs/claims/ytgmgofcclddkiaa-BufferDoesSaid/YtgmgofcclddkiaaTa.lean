/- The buffer's Take, way by way: what the code does to memory. -/
import Derived.Test.YtgmgofcclddkiaaLst
import Derived.Test.YtgmgofcclddkiaaPut
import Derived.Deep.Cut
import Derived.Maps.AppendAt
namespace Go.Proofs.Ytgmgofcclddkiaa
open Go.RowKit Go.Maps Go.WideShapes

theorem infoStr : (Try.prog.info? 9).map (fun i => (i.zero, i.size, i.bytes)) = some (some (.string ByteArray.empty), 1, 16) := by kernel_rfl

set_option maxRecDepth 100000 in
set_option maxHeartbeats 400000 in
/-- no slot -/
theorem take_none {w : World} {p : Nat} {each room : Nat} {n dr : Int} {mb : Nat} (ho : w.heap[p]? = some (.cells #[.int .i64 each, .int .i64 room, .map (some mb), .int .i64 n, .int .i64 dr] 71 (0, 0)))
   (i : Int)
   (hl : (Instr.lookup 69 (.map (some mb)) (.int .i64 i) true).run Try.prog w = .ok (.tuple #[.agg #[.chan none, .map none], .bool false]) w) :
    Calls Try.prog 20 #[.pointer (some ⟨p, 0, none⟩), .int .i64 i] w fun e w' => e = .returned (.slice none 0 0) ∧ w' = w.alloc (.cells #[.chan none, .map none] 74) := by
  have c2 := cell_of ho 2
  clear ho
  go_enter Try.func20, Try.ntmps20
  go_wp2
  go_ret
  exact ⟨rfl, rfl⟩

/-- what lies in memory when k things have been taken -/
structure Taking (w : World) (p mb c s : Nat) (each room : Nat) (n dr : Int) (m : Nat) (g : Lit → Option Value) (ts : List ByteArray) (sn rn : Nat) (k : Nat) (v : Value) (wr : World) : Prop where
  le : k ≤ ts.length
  row : wr.ownsRow (w.heap.size + 1) 9 1 v k ((ts.take k).map Value.string)
  nil : v = .slice none 0 0 ↔ k = 0
  chan : wr.heap[c]? = some (.chan each ((ts.drop k).map Value.string).toArray false sn (rn + k) false)
  own : wr.heap[p]? = some (.cells #[.int .i64 each, .int .i64 room, .map (some mb), .int .i64 (n - k), .int .i64 dr] 71 (0, 0))
  loc : wr.heap[w.heap.size]? = some (.cells #[.chan (some c), .map (some s)] 74 (0, 0))
  slots : MapIs Try.prog 3 wr mb m g
  rest : ∀ j, j < w.heap.size → j ≠ p → j ≠ mb → j ≠ c → wr.heap[j]? = w.heap[j]?
  same : wr.os = w.os ∧ wr.tape = w.tape ∧ wr.output = w.output ∧ w.heap.size + 1 ≤ wr.heap.size

def lenOf : Value → Nat
  | .slice _ n _ => n
  | _ => 0
theorem lenOf_row {w : World} {base : Nat} {e : TypeId} {size : Nat} {v : Value} {n : Nat} {xs : List Value} (h : w.ownsRow base e size v n xs) : lenOf v = n := by
  rcases h.2 with ⟨rfl, hn⟩ | ⟨g, cap, cur, rfl, _⟩
  · simp [lenOf, hn]
  · rfl
theorem row_block {w : World} {base : Nat} {e : TypeId} {size : Nat} {v : Value} {n : Nat} {xs : List Value} (h : w.ownsRow base e size v n xs) {j : Nat} (hj : j < base) : some j ≠ v.ownBlock := by
  rcases h.2 with ⟨rfl, _⟩ | ⟨g, cap, cur, rfl, hb, _⟩
  · simp [Value.ownBlock]
  · simp [Value.ownBlock]; omega
theorem take_succ {α : Type} (l : List α) (k : Nat) (h : k < l.length) : l.take (k + 1) = l.take k ++ [l[k]] := by
  rw [List.take_succ_eq_append_getElem h]

set_option maxRecDepth 100000 in
set_option maxHeartbeats 1000000 in
theorem take_some {w : World} {p : Nat} {each room : Nat} {n dr : Int} {mb m : Nat} (ho : w.heap[p]? = some (.cells #[.int .i64 each, .int .i64 room, .map (some mb), .int .i64 n, .int .i64 dr] 71 (0, 0)))
   (i : Int) (hi1 : -9223372036854775808 ≤ i) (hi2 : i ≤ 9223372036854775807) (c s sn rn : Nat) (ts : List ByteArray) (g : Lit → Option Value)
   (hl : (Instr.lookup 69 (.map (some mb)) (.int .i64 i) true).run Try.prog w = .ok (.tuple #[.agg #[.chan (some c), .map (some s)], .bool true]) w)
   (hc : w.heap[c]? = some (.chan each (ts.map Value.string).toArray false sn rn false)) (hm : MapIs Try.prog 3 w mb m g) (htl : ts.length ≤ 64) (hn1 : (ts.length : Int) ≤ n) (hn2 : n ≤ 4611686018427387904) :
    Calls Try.prog 20 #[.pointer (some ⟨p, 0, none⟩), .int .i64 i] w fun e w' => ∃ v, e = .returned v ∧ Taking w p mb c s each room n dr m (upd g (.int .i64 i) none) ts sn rn ts.length v w' := by
  have c2 := cell_of ho 2
  have hp : p < w.heap.size := (Array.getElem?_eq_some_iff.1 ho).1
  have hcl : c < w.heap.size := (Array.getElem?_eq_some_iff.1 hc).1
  have hml := hm.lt
  have HPC : Hid (p ≠ c) := fun e => by subst e; rw [ho] at hc; cases hc
  have HPM : Hid (p ≠ mb) := fun e => by subst e; obtain ⟨_, _, h1⟩ := hm.isObj; rw [ho] at h1; cases h1
  have HCM : Hid (c ≠ mb) := fun e => by subst e; obtain ⟨_, _, h1⟩ := hm.isObj; rw [hc] at h1; cases h1
  have HK := Lib.hid (keyOf_int_mk Try.underlying3 (wf_i i hi1 hi2))
  have HO := Lib.hid ho
  have HC := Lib.hid hc
  have HM := Lib.hid hm
  obtain ⟨i0, hi, hz0, hz1, hz2⟩ := info_parts infoStr
  clear ho hc hm hi1 hi2
  have hm1 : ∀ o, MapIs Try.prog 3 (w.alloc o) mb m g := fun o => HM.out.block (Below.heap_alloc _ _ _ hml)
  have HM1 := Lib.hid hm1
  clear hm1
  go_enter Try.func20, Try.ntmps20
  go_wp2_with (at_delete; refine wpList_drop _ rfl _ _ 69 3 rfl keyed3 Try.underlying69 rfl (HM1.out _) rfl HK.out ?_; intro w2 hm2 ht2; have HM2 := Lib.hid hm2; have HT2 := Lib.hid ht2; clear hm2 ht2)
  go_loopw [7] (fun v wr => ∃ k, Taking w p mb c s each room n dr m (upd g (.int .i64 i) none) ts sn rn k v wr) (fun v _ => ts.length - lenOf v)
  case atStart =>
    refine ⟨0, Nat.zero_le _, by simpa using World.ownsRow_nil w2 _ 9 1, by simp, ?_, ?_, ?_, HM2.out, ?_, ?_⟩
    · rw [mapTurned_heap_ne HT2.out HCM.out, Below.heap_alloc _ _ _ hcl]; simpa using HC.out
    · rw [mapTurned_heap_ne HT2.out HPM.out, Below.heap_alloc _ _ _ hp]; simpa using HO.out
    · rw [mapTurned_heap_ne HT2.out (by omega)]; exact (MapKept.heap_alloc w _).1
    · intro j hj h1 h2 h3
      rw [mapTurned_heap_ne HT2.out h2, Below.heap_alloc _ _ _ hj]
    · have q := HT2.out.grown
      exact ⟨q.os, q.tape, q.output, by have := mapTurned_size HT2.out; simp at this; omega⟩
  case round =>
    obtain ⟨k, R⟩ := hrel
    have l0 := cell_of R.loc 0
    have HR := Lib.hid R
    by_cases hk : k < ts.length
    · go_upto_region 7 with (fail)
      have hcn : wr.heap[c]? = some (.chan each (Value.string ts[k] :: (ts.drop (k + 1)).map Value.string).toArray false sn (rn + k) false) := by
        have := HR.out.chan
        rw [List.drop_eq_getElem_cons hk, List.map_cons] at this; exact this
      refine region_select_recv_cons (z := .string ByteArray.empty) rfl rfl (zero9 _) rfl hcn ?_
      have hex : ∃ W4, W4 = wr.setChan c each ((ts.drop (k + 1)).map Value.string).toArray false sn (rn + k + 1) false := ⟨_, rfl⟩
      obtain ⟨W4, hW4⟩ := hex
      rw [← hW4]
      obtain ⟨x, hx⟩ : ∃ x, x = ts[k] := ⟨_, rfl⟩
      rw [← hx]
      have hz4 : W4.heap.size = wr.heap.size := by rw [hW4, Conc.size_setChan]
      have hzr := HR.out.same.2.2.2
      have hown0 : W4.ownsRow (w.heap.size + 1) 9 1 u7 k ((ts.take k).map Value.string) := by
        obtain ⟨r1, r2⟩ := HR.out.row
        refine ⟨r1, r2.imp id ?_⟩
        rintro ⟨g', cap', cur', e1, e2, e3, e4⟩
        exact ⟨g', cap', cur', e1, e2, by rw [hW4, setChan_heap_ne (by omega)]; exact e3, e4⟩
      have HX := Lib.hid hx
      have HZ4 := Lib.hid hz4
      have HW4 := Lib.hid hW4
      have HOWN := Lib.hid hown0
      clear hW4 hcn hx hz4 hown0 l0 R
      have hz5 : w.heap.size + 1 ≤ W4.heap.size := by have := HZ4.out; omega
      have HOLD : Hid (∀ w5, (W4.alloc (.cells #[.string x] 9)).grownBy w5 u7.ownBlock → ∀ j, j < w.heap.size + 1 → w5.heap[j]? = W4.heap[j]?) := fun w5 hg j hj =>
        (hg.block j (by simp; omega) (row_block HOWN.out hj)).trans (Below.heap_alloc _ _ _ (by omega))
      have HP4 : Hid (W4.heap[p]? = some (.cells #[.int .i64 each, .int .i64 room, .map (some mb), .int .i64 (n - k), .int .i64 dr] 71 (0, 0))) := by
        show _ = _
        rw [HW4.out, setChan_heap_ne HPC.out]; exact HR.out.own
      go_frame
      go_wp2_with (at_builtin; refine wpList_append_own _ rfl _ _ 36 rfl (w.heap.size + 1) 9 i0 (.string ByteArray.empty) 1 16 Try.underlying36 hi hz0 hz1 hz2 rfl (by decide) _ _ _ rfl (HOWN.out.alloc _) ⟨W4.heap.size, 0, none⟩ 1 1 [.string x] rfl rfl (cell_one_new _ _ _) (fun u hu => by simp at hu; subst hu; rfl) (by unfold maxLen; omega) (by omega) (by simp; omega) ?_; intro v' w5 hown' hgrow hnil'; have b5 := (HOLD.out w5 hgrow p (by omega)).trans HP4.out; have c3 := cell_of b5 3; have f3 := frozen_of b5 3; have HP5 := Lib.hid b5; have HOWN' := Lib.hid hown'; have HG := Lib.hid hgrow; have HN := Lib.hid hnil'; clear hown' hgrow hnil' b5)
      have hx := HX.out
      have hW4 := HW4.out
      have hN := HN.out
      have rr := HR.out
      have hz4 := HZ4.out
      have old := HOLD.out w5 HG.out
      have hrow' : w5.ownsRow (w.heap.size + 1) 9 1 v' (k + 1) ((ts.take (k + 1)).map Value.string) := by
        rw [take_succ ts k hk, List.map_append, ← hx]; exact HOWN'.out
      have hG := HG.out
      have sc : ∀ (u : Value) j, j ≠ p → (w5.setCell ⟨p, 3, none⟩ u).heap[j]? = w5.heap[j]? := fun u j h1 => Below.heap_setCell _ _ _ _ h1
      refine ⟨⟨k + 1, ?_⟩, ?_⟩
      · refine ⟨by omega, ?_, ?_, ?_, ?_, ?_, ?_, ?_, ?_⟩
        · exact ownsRow_setCell_below hrow' (by simp; omega) _
        · rw [hN]; simp
        · rw [sc _ _ HPC.out.symm, old c (by omega), hW4]
          exact Conc.heap_setChan _ _ _ _ _ _ _ _ (by omega)
        · have := own_set3 (d' := .int .i64 (n - k - 1)) HP5.out
          rw [this]
          have e : n - (k : Int) - 1 = n - ((k + 1 : Nat) : Int) := by omega
          rw [e]
        · rw [sc _ _ (by omega), old _ (by omega), hW4, setChan_heap_ne (by omega)]; exact rr.loc
        · refine rr.slots.block ?_
          rw [sc _ _ HPM.out.symm, old _ (by omega), hW4, setChan_heap_ne HCM.out.symm]
        · intro j hj h1 h2 h3
          rw [sc _ _ h1, old _ (by omega), hW4, setChan_heap_ne h3]; exact rr.rest j hj h1 h2 h3
        · have q := rr.same
          refine ⟨hG.os.trans ?_, hG.tape.trans ?_, hG.output.trans ?_, ?_⟩
          · rw [hW4]; exact q.1
          · rw [hW4]; exact q.2.1
          · rw [hW4]; exact q.2.2.1
          · have := hG.size; simp at this ⊢; omega
      · rw [lenOf_row hrow', lenOf_row rr.row]; omega
    · go_upto_region 7 with (fail)
      have hke : k = ts.length := by have := R.le; omega
      have hcn : wr.heap[c]? = some (.chan each #[] false sn (rn + k) false) := by have := HR.out.chan; rw [hke, List.drop_length] at this; rw [hke]; exact this
      refine region_select_recv_none (z := .string ByteArray.empty) rfl rfl (zero9 _) rfl hcn ?_
      subst hke
      clear hcn
      go_frame
      go_wp2
      go_ret
      exact ⟨_, rfl, HR.out⟩
end Go.Proofs.Ytgmgofcclddkiaa
