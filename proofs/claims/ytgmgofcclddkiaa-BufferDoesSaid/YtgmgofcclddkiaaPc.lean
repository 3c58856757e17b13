/- The buffer's Put where a new slot is made. -/
import Derived.Test.YtgmgofcclddkiaaPb
import Derived.RegionTactic
import Derived.ChangeAlike
namespace Go.Proofs.Ytgmgofcclddkiaa
open Go.RowKit Go.Maps Go.WideShapes

theorem info9 : (Try.prog.info? 9).map (fun i => i.bytes) = some 16 := by kernel_rfl
theorem mkChan (n : Nat) (h : n ≤ 64) (w : World) : (Instr.makeChan 72 (.int .i64 n)).run Try.prog w = .ok (.chan (some w.heap.size)) (w.alloc (.chan n #[] false 0 0 false)) := by
  have hi := info9
  cases h9 : Try.prog.info? 9 with
  | none => rw [h9] at hi; cases hi
  | some ii =>
    rw [h9] at hi
    simp only [Option.map_some, Option.some.injEq] at hi
    have ha : Sem.run Try.prog (asIntOf (.int .i64 n)) w = .ok (.i64, (n : Int)) w := rfl
    simp only [Instr.makeChan, asInt, run_underlying Try.underlying72, typeInfo, newObj, Sem.run_bind, ha]
    simp [h9, hi]
    have h4 : ¬ ((n : Int) < 0 ∨ 9223372036854775807 < (n : Int) ∨ 281474976710544 < 16 * (n : Int)) := by omega
    rw [if_neg h4]
    rfl

theorem heap_two {w : World} {b : Nat} {x y u v : Value} {t : TypeId} (h : w.heap[b]? = some (.cells #[x, y] t (0, 0))) :
    ((w.setCell ⟨b, 0, none⟩ u).setCell ⟨b, 1, none⟩ v).heap[b]? = some (.cells #[u, v] t (0, 0)) := by
  simp [World.setCell, Array.getElem?_modify, h]

theorem own_set3 {w : World} {p : Nat} {a b c d d' e : Value} {t : TypeId} (h : w.heap[p]? = some (.cells #[a, b, c, d, e] t (0, 0))) : (w.setCell ⟨p, 3, none⟩ d').heap[p]? = some (.cells #[a, b, c, d', e] t (0, 0)) := by
  simp [World.setCell, Array.getElem?_modify, h]
theorem own_set4 {w : World} {p : Nat} {a b c d e' e : Value} {t : TypeId} (h : w.heap[p]? = some (.cells #[a, b, c, d, e] t (0, 0))) : (w.setCell ⟨p, 4, none⟩ e').heap[p]? = some (.cells #[a, b, c, d, e'] t (0, 0)) := by
  simp [World.setCell, Array.getElem?_modify, h]

/-- what a new slot does to memory -/
structure Newed (w : World) (p mb each room : Nat) (n dr i : Int) (m : Nat) (g : Lit → Option Value) (t : ByteArray) (w' : World) : Prop where
  own : w'.heap[p]? = some (.cells #[.int .i64 each, .int .i64 room, .map (some mb), .int .i64 (n + 1), .int .i64 dr] 71 (0, 0))
  slots : MapIs Try.prog 3 w' mb (m + 1) (upd g (.int .i64 i) (some (slotV (w.heap.size + 1) (w.heap.size + 2))))
  chan : w'.heap[w.heap.size + 1]? = some (.chan each #[.string t] false 1 0 false)
  set : MapIs Try.prog 9 w' (w.heap.size + 2) 1 (upd (fun _ => none) (.string t.data.toList) (some (.bool true)))
  turned : Turned (fun j => j = p ∨ j = mb) w w'
  size : w'.heap.size = w.heap.size + 3

set_option maxRecDepth 100000 in
set_option maxHeartbeats 1000000 in
/-- a new slot -/
theorem put_new {w : World} {p : Nat} {each room : Nat} {n dr k : Int} {mb m : Nat} (ho : w.heap[p]? = some (.cells #[.int .i64 each, .int .i64 room, .map (some mb), .int .i64 n, .int .i64 dr] 71 (0, 0)))
   (i : Int) (h : ¬ i < 1) (hi2 : i ≤ 9223372036854775807) (t : ByteArray) (ht : t.size ≤ maxLen) (g : Lit → Option Value) (hm : MapIs Try.prog 3 w mb m g) (hmx : m < maxLen)
   (hl : (Instr.lookup 69 (.map (some mb)) (.int .i64 i) true).run Try.prog w = .ok (.tuple #[.agg #[.chan none, .map none], .bool false]) w)
   (hs : ∀ o, (Instr.lookup 49 (.map none) (.string t) false).run Try.prog (w.alloc o) = .ok (.bool false) (w.alloc o))
   (hn : ∀ o q, (Builtin.len_ #[69] 3 #[.map (some mb)]).run Try.prog ((w.alloc o).drewN q) = .ok (.int .i64 k) ((w.alloc o).drewN q)) (hkr : (k == (room : Int)) = false)
   (he : each ≤ 64) (he1 : 1 ≤ each)
   (hd1 : -9223372036854775808 ≤ n) (hd2 : n + 1 ≤ 9223372036854775807) :
    Calls Try.prog 17 #[.pointer (some ⟨p, 0, none⟩), .int .i64 i, .string t] w fun e w' => e = .returned (.int .i64 0) ∧ Newed w p mb each room n dr i m g t w' := by
  have c2 := cell_of ho 2
  have c1 := cell_of ho 1
  have c0 := cell_of ho 0
  have hp : p < w.heap.size := (Array.getElem?_eq_some_iff.1 ho).1
  have hmk := fun W => mkChan each he W
  have hmm := @run_makeMap Try.prog
  have HK1 := Lib.hid (keyOf_int_mk Try.underlying3 (wf_i i (by omega) hi2))
  have HK2 := Lib.hid (Go.WideMaps.keyOf_string_mk Try.underlying9 ht)
  have hmb := hm.lt
  have HPM : Hid (p ≠ mb) := fun e => by subst e; obtain ⟨_, _, h1⟩ := hm.isObj; rw [ho] at h1; cases h1
  have HO := Lib.hid ho
  have HM := Lib.hid hm
  have HI := Lib.hid hi2
  clear ho hm hi2
  go_enter Try.func17, Try.ntmps17
  go_wp2
  go_quiet (fail)
  go_upto_region 11 with (fail)
  have hex : ∃ W1, W1 = ((((((w.alloc (Obj.cells #[Value.chan none, Value.map none] 74)).drewN nq).setCell ⟨w.heap.size, 0, none⟩ (Value.chan (some (w.heap.size + 1)))).setCell ⟨w.heap.size, 1, none⟩ (Value.map (some (w.heap.size + 1 + 1)))).alloc (Obj.chan each #[] false 0 0 false)).alloc (Obj.map #[] 0)) := ⟨_, rfl⟩
  obtain ⟨W1, hW1⟩ := hex
  rw [← hW1]
  have hX : ∃ X : World, X.heap.size = w.heap.size + 1 ∧ X.heap[w.heap.size]? = some (.cells #[.chan (some (w.heap.size + 1)), .map (some (w.heap.size + 1 + 1))] 74 (0, 0)) ∧ W1 = (X.alloc (Obj.chan each #[] false 0 0 false)).alloc (Obj.map #[] 0) :=
    ⟨_, by simp, heap_two (w := (w.alloc (Obj.cells #[Value.chan none, Value.map none] 74)).drewN nq) (MapKept.heap_alloc w _).1, hW1⟩
  obtain ⟨X, hX1, hX2, hX3⟩ := hX
  have b0 : W1.heap[w.heap.size]? = some (.cells #[.chan (some (w.heap.size + 1)), .map (some (w.heap.size + 2))] 74 (0, 0)) := by
    rw [hX3, Below.heap_alloc _ _ _ (by simp; omega), Below.heap_alloc _ _ _ (by omega)]
    exact hX2
  have b1 : W1.heap[w.heap.size + 1]? = some (.chan each #[] false 0 0 false) := by
    rw [hX3, Below.heap_alloc _ _ _ (by simp; omega), ← hX1]
    exact (MapKept.heap_alloc X _).1
  have b2 : MapIs Try.prog 9 W1 (w.heap.size + 2) 0 (fun _ => none) := by
    have e := MapIs.made (X.alloc (Obj.chan each #[] false 0 0 false)) Try.prog 9
    rw [World.size_alloc, hX1] at e
    rw [hX3]; exact e
  clear hX3 hX2 hX1
  have bo : ∀ j, j < w.heap.size → W1.heap[j]? = w.heap[j]? := fun j hj => by
    rw [hW1, Below.heap_alloc _ _ _ (by simp; omega), Below.heap_alloc _ _ _ (by simp; omega), Below.heap_setCell _ _ _ _ (by simp; omega), Below.heap_setCell _ _ _ _ (by simp; omega)]
    exact Below.heap_alloc _ _ _ hj
  have bs : W1.heap.size = w.heap.size + 3 := by rw [hW1]; simp
  have BT : Hid (W1.os = w.os ∧ W1.tape = w.tape ∧ W1.output = w.output) := by rw [hW1]; exact ⟨rfl, rfl, rfl⟩
  clear hW1
  have p1 : W1.heap[p]? = some (.cells #[.int .i64 each, .int .i64 room, .map (some mb), .int .i64 n, .int .i64 dr] 71 (0, 0)) := (bo p hp).trans HO.out
  have hst := (HM.out.block (w' := W1.drew) (bo mb hmb)).store keyed3 Try.underlying69 hmx HK1.out (.agg #[.chan (some (w.heap.size + 1)), .map (some (w.heap.size + 2))])
  obtain ⟨w3, hrun, hm3, ht3⟩ := hst
  have d2 := cell_of p1 2
  have d0 := cell_of b0 0
  have d1 := cell_of b0 1
  have HB0 := Lib.hid b0
  have HB1 := Lib.hid b1
  have HB2 := Lib.hid b2
  have HP1 := Lib.hid p1
  have HBO := Lib.hid bo
  have HBS := Lib.hid bs
  have HM3 := Lib.hid hm3
  have HT3 := Lib.hid ht3
  have HJ : Hid (∀ j, j ≠ mb → w3.heap[j]? = W1.heap[j]?) := fun j hj => mapTurned_heap_ne (w := W1.drew) ht3 hj
  clear b0 b1 b2 p1 bo bs hm3 ht3 c2 c1 c0 hl hs hn
  go_region
  have g0 : w3.heap[w.heap.size]? = some (.cells #[.chan (some (w.heap.size + 1)), .map (some (w.heap.size + 2))] 74 (0, 0)) := (HJ.out _ (by omega)).trans HB0.out
  have g1 : w3.heap[w.heap.size + 1]? = some (.chan each #[] false 0 0 false) := (HJ.out _ (by omega)).trans HB1.out
  have g2 : MapIs Try.prog 9 w3 (w.heap.size + 2) 0 (fun _ => none) := HB2.out.block (HJ.out _ (by omega))
  have gp : w3.heap[p]? = some (.cells #[.int .i64 each, .int .i64 room, .map (some mb), .int .i64 n, .int .i64 dr] 71 (0, 0)) := (HJ.out _ HPM.out).trans HP1.out
  clear hrun d2 d0 d1
  have d0 := cell_of g0 0
  have G0 := Lib.hid g0
  have G1 := Lib.hid g1
  have G2 := Lib.hid g2
  have GP := Lib.hid gp
  clear g0 g1 g2 gp
  go_upto_region 14 with (fail)
  refine region_select_send_room (x := .string t) rfl rfl (zero9 _) rfl rfl G1.out (by simp; omega) ?_
  have hex2 : ∃ W4, W4 = w3.setChan (w.heap.size + 1) each (#[].push (.string t)) false (0 + 1) 0 false := ⟨_, rfl⟩
  obtain ⟨W4, hW4⟩ := hex2
  rw [← hW4]
  have k0 : W4.heap[w.heap.size]? = some (.cells #[.chan (some (w.heap.size + 1)), .map (some (w.heap.size + 2))] 74 (0, 0)) := by rw [hW4, setChan_heap_ne (by omega)]; exact G0.out
  have k2 : MapIs Try.prog 9 W4 (w.heap.size + 2) 0 (fun _ => none) := G2.out.block (by rw [hW4, setChan_heap_ne (by omega)])
  have kp : W4.heap[p]? = some (.cells #[.int .i64 each, .int .i64 room, .map (some mb), .int .i64 n, .int .i64 dr] 71 (0, 0)) := by rw [hW4, setChan_heap_ne (by omega)]; exact GP.out
  clear d0
  have k1 := cell_of k0 1
  have HW4 := Lib.hid hW4
  have HKP := Lib.hid kp
  clear hW4 k0 kp
  go_frame
  go_wp2_with (at_mapUpdate; refine wpList_store (val := .bool true) _ rfl _ _ _ 49 rfl keyed9 Try.underlying49 rfl k2 (by unfold maxLen; omega) rfl rfl HK2.out ?_; intro w5 hm5 ht5; have b5 := (mapTurned_heap_ne ht5 (show p ≠ w.heap.size + 2 by omega)).trans HKP.out; have c3 := cell_of b5 3; have f3 := frozen_of b5 3; have HT5 := Lib.hid ht5; have HM5 := Lib.hid hm5; have HP5 := Lib.hid b5; clear ht5 hm5 b5)
  go_ret
  refine ⟨rfl, ?_⟩
  have hW4 := HW4.out
  have hT5 := HT5.out
  have hJ := HJ.out
  have hBO := HBO.out
  have hz3 : w3.heap.size = w.heap.size + 3 := (mapTurned_size HT3.out).trans HBS.out
  have hz4 : W4.heap.size = w.heap.size + 3 := by rw [hW4, Conc.size_setChan]; exact hz3
  have hz5 : w5.heap.size = w.heap.size + 3 := (mapTurned_size hT5).trans hz4
  have j5 : ∀ j, j ≠ w.heap.size + 2 → j ≠ w.heap.size + 1 → w5.heap[j]? = w3.heap[j]? := fun j h1 h2 => (mapTurned_heap_ne hT5 h1).trans (by rw [hW4, setChan_heap_ne h2])
  have s5 : ∀ (u : Value) j, j ≠ p → (w5.setCell ⟨p, 3, none⟩ u).heap[j]? = w5.heap[j]? := fun u j h1 => Below.heap_setCell _ _ _ _ h1
  refine ⟨own_set3 HP5.out, ?_, ?_, ?_, ?_, by simpa using hz5⟩
  · exact HM3.out.block ((s5 _ _ HPM.out.symm).trans (j5 _ (by omega) (by omega)))
  · rw [s5 _ _ (by omega), mapTurned_heap_ne hT5 (by omega), hW4]
    exact Conc.heap_setChan _ _ _ _ _ _ _ _ (by omega)
  · exact HM5.out.block (s5 _ _ (by omega))
  · have t1 : w3.os = w.os ∧ w3.tape = w.tape ∧ w3.output = w.output := by
      have q := HT3.out.grown
      exact ⟨q.os.trans BT.out.1, q.tape.trans BT.out.2.1, q.output.trans BT.out.2.2⟩
    have t2 : W4.os = w.os ∧ W4.tape = w.tape ∧ W4.output = w.output := by rw [hW4]; exact t1
    have q := hT5.grown
    refine ⟨q.os.trans t2.1, q.tape.trans t2.2.1, q.output.trans t2.2.2, by simp; omega, fun j hj hn => ?_⟩
    simp only [not_or] at hn
    rw [s5 _ _ hn.1, j5 _ (by omega) (by omega), hJ _ hn.2]
    exact hBO j hj
end Go.Proofs.Ytgmgofcclddkiaa
