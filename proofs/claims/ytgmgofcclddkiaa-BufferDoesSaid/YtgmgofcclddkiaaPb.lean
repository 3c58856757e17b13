/- The buffer's Put where an interval's slot has room. -/
import Derived.Test.YtgmgofcclddkiaaBuf
import Derived.Deep.Cut
namespace Go.Proofs.Ytgmgofcclddkiaa
open Go.RowKit Go.Maps Go.WideShapes

/-- what a thing's coming does to memory, behind the look at its slot -/
def Sent (w0 : World) (p c s each : Nat) (buf : Array Value) (sn rn : Nat) (n : Int) (m : Nat) (g : Lit → Option Value) (t : ByteArray) (w' : World) : Prop :=
  ∃ w2, MapIs Try.prog 9 w2 s (m + 1) (upd g (.string t.data.toList) (some (.bool true))) ∧ (w0.setChan c each (buf.push (.string t)) false (sn + 1) rn false).mapTurned w2 s ∧ w' = w2.setCell ⟨p, 3, none⟩ (.int .i64 (n + 1))

set_option maxRecDepth 100000 in
set_option maxHeartbeats 400000 in
/-- a slot with room -/
theorem put_room {w : World} {p : Nat} {each room : Nat} {n dr : Int} {mb : Nat} (ho : w.heap[p]? = some (.cells #[.int .i64 each, .int .i64 room, .map (some mb), .int .i64 n, .int .i64 dr] 71 (0, 0)))
   (i : Int) (h : ¬ i < 1) (t : ByteArray) (c s sn rn m : Nat) (buf : Array Value) (g : Lit → Option Value)
   (hl : (Instr.lookup 69 (.map (some mb)) (.int .i64 i) true).run Try.prog w = .ok (.tuple #[.agg #[.chan (some c), .map (some s)], .bool true]) w)
   (hs : ∀ o, (Instr.lookup 49 (.map (some s)) (.string t) false).run Try.prog (w.alloc o) = .ok (.bool false) (w.alloc o))
   (hc : w.heap[c]? = some (.chan each buf false sn rn false)) (hb : buf.size < each) (hm : MapIs Try.prog 9 w s m g) (hmx : m < maxLen) (ht : t.size ≤ maxLen)
   (hd1 : -9223372036854775808 ≤ n) (hd2 : n + 1 ≤ 9223372036854775807) :
    Calls Try.prog 17 #[.pointer (some ⟨p, 0, none⟩), .int .i64 i, .string t] w fun e w' => e = .returned (.int .i64 0) ∧ ∃ q, Sent ((w.alloc (.cells #[.chan (some c), .map (some s)] 74)).drewN q) p c s each buf sn rn n m g t w' := by
  have c2 := cell_of ho 2
  have hp : p < w.heap.size := (Array.getElem?_eq_some_iff.1 ho).1
  have hcl : c < w.heap.size := (Array.getElem?_eq_some_iff.1 hc).1
  have hsl := hm.lt
  have hk := Go.WideMaps.keyOf_string_mk Try.underlying9 ht
  have hpc : p ≠ c := fun e => by subst e; rw [ho] at hc; cases hc
  have hps : p ≠ s := fun e => by subst e; obtain ⟨_, _, h1⟩ := hm.isObj; rw [ho] at h1; cases h1
  have hsc : s ≠ c := fun e => by subst e; obtain ⟨_, _, h1⟩ := hm.isObj; rw [hc] at h1; cases h1
  have HO := Lib.hid ho
  have HPC := Lib.hid hpc
  have HPS := Lib.hid hps
  have HSC := Lib.hid hsc
  have HK := Lib.hid hk
  have HM := Lib.hid hm
  have HC := Lib.hid hc
  clear ho hpc hps hsc hk hm hc
  go_enter Try.func17, Try.ntmps17
  go_wp2
  go_quiet (fail)
  go_upto_region 14 with (fail)
  have hc1 : (((w.alloc (.cells #[.chan (some c), .map (some s)] 74)).drewN nq).heap)[c]? = some (.chan each buf false sn rn false) := (Below.heap_alloc _ _ _ hcl).trans HC.out
  refine region_select_send_room (x := .string t) rfl rfl (zero9 _) rfl rfl hc1 hb ?_
  have e1 : ∃ W1, W1 = ((w.alloc (.cells #[.chan (some c), .map (some s)] 74)).drewN nq).setChan c each (buf.push (.string t)) false (sn + 1) rn false := ⟨_, rfl⟩
  obtain ⟨W1, hW1⟩ := e1
  rw [← hW1]
  have b1 : W1.heap[w.heap.size]? = some (.cells #[.chan (some c), .map (some s)] 74 (0, 0)) := by
    rw [hW1, setChan_heap_ne (by omega)]
    exact (MapKept.heap_alloc w _).1
  have b2 : W1.heap[p]? = w.heap[p]? := by rw [hW1, setChan_heap_ne HPC.out]; exact Below.heap_alloc _ _ _ hp
  have b3 : W1.heap[s]? = w.heap[s]? := by rw [hW1, setChan_heap_ne HSC.out]; exact Below.heap_alloc _ _ _ hsl
  have hm1 := HM.out.block b3
  have k1 := cell_of b1 1
  have HW := Lib.hid hW1
  have HB := Lib.hid (b2.trans HO.out)
  clear hW1 b1 b2 b3 hc1
  go_frame
  go_wp2_with (at_mapUpdate; refine wpList_store _ rfl _ _ _ 49 rfl keyed9 Try.underlying49 rfl hm1 hmx rfl rfl HK.out ?_; intro w2 hm2 ht2; have b4 := (mapTurned_heap_ne ht2 HPS.out).trans HB.out; have c3 := cell_of b4 3; have f3 := frozen_of b4 3; have HT := Lib.hid ht2; clear ht2 b4)
  go_ret
  exact ⟨rfl, nq, w2, hm2, by rw [← HW.out]; exact HT.out, rfl⟩
end Go.Proofs.Ytgmgofcclddkiaa
