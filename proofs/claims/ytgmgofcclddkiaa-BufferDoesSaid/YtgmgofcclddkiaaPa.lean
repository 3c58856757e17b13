/- The buffer's Put, way by way: what the code does to memory. -/
import Derived.Test.YtgmgofcclddkiaaBuf
import Derived.Deep.Cut
namespace Go.Proofs.Ytgmgofcclddkiaa
open Go.RowKit Go.Maps Go.WideShapes

set_option maxRecDepth 100000 in
set_option maxHeartbeats 400000 in
/-- an interval below 1 -/
theorem put_low {w : World} {p : Nat} {each room : Nat} {n dr : Int} {mb : Nat} (ho : w.heap[p]? = some (.cells #[.int .i64 each, .int .i64 room, .map (some mb), .int .i64 n, .int .i64 dr] 71 (0, 0)))
   (i : Int) (h : i < 1) (t : ByteArray) (c s : Option Nat) (is : Bool)
   (hl : (Instr.lookup 69 (.map (some mb)) (.int .i64 i) true).run Try.prog w = .ok (.tuple #[.agg #[.chan c, .map s], .bool is]) w) :
    Calls Try.prog 17 #[.pointer (some ⟨p, 0, none⟩), .int .i64 i, .string t] w fun e w' => e = .returned (.int .i64 1) ∧ w' = w.alloc (.cells #[.chan c, .map s] 74) := by
  have c2 := cell_of ho 2
  clear ho
  go_enter Try.func17, Try.ntmps17
  go_wp2
  go_ret
  exact ⟨rfl, rfl⟩

set_option maxRecDepth 100000 in
set_option maxHeartbeats 400000 in
/-- a thing that is there -/
theorem put_twice {w : World} {p : Nat} {each room : Nat} {n dr : Int} {mb : Nat} (ho : w.heap[p]? = some (.cells #[.int .i64 each, .int .i64 room, .map (some mb), .int .i64 n, .int .i64 dr] 71 (0, 0)))
   (i : Int) (h : ¬ i < 1) (t : ByteArray) (c s : Option Nat)
   (hl : (Instr.lookup 69 (.map (some mb)) (.int .i64 i) true).run Try.prog w = .ok (.tuple #[.agg #[.chan c, .map s], .bool true]) w)
   (hs : ∀ o, (Instr.lookup 49 (.map s) (.string t) false).run Try.prog (w.alloc o) = .ok (.bool true) (w.alloc o)) :
    Calls Try.prog 17 #[.pointer (some ⟨p, 0, none⟩), .int .i64 i, .string t] w fun e w' => e = .returned (.int .i64 11) ∧ w' = w.alloc (.cells #[.chan c, .map s] 74) := by
  have c2 := cell_of ho 2
  clear ho
  go_enter Try.func17, Try.ntmps17
  go_wp2
  go_ret
  exact ⟨rfl, rfl⟩

set_option maxRecDepth 100000 in
set_option maxHeartbeats 400000 in
/-- no slot, and no room for one -/
theorem put_many {w : World} {p : Nat} {each room : Nat} {n dr : Int} {mb : Nat} (ho : w.heap[p]? = some (.cells #[.int .i64 each, .int .i64 room, .map (some mb), .int .i64 n, .int .i64 dr] 71 (0, 0)))
   (i : Int) (h : ¬ i < 1) (t : ByteArray)
   (hl : (Instr.lookup 69 (.map (some mb)) (.int .i64 i) true).run Try.prog w = .ok (.tuple #[.agg #[.chan none, .map none], .bool false]) w)
   (hs : ∀ o, (Instr.lookup 49 (.map none) (.string t) false).run Try.prog (w.alloc o) = .ok (.bool false) (w.alloc o))
   (hn : ∀ o q, (Builtin.len_ #[69] 3 #[.map (some mb)]).run Try.prog ((w.alloc o).drewN q) = .ok (.int .i64 room) ((w.alloc o).drewN q))
   (hd1 : -9223372036854775808 ≤ dr) (hd2 : dr + 1 ≤ 9223372036854775807) :
    Calls Try.prog 17 #[.pointer (some ⟨p, 0, none⟩), .int .i64 i, .string t] w fun e w' => e = .returned (.int .i64 4) ∧ ∃ q, w' = (((w.alloc (.cells #[.chan none, .map none] 74)).drewN q).setCell ⟨p, 4, none⟩ (.int .i64 (dr + 1))) := by
  have c2 := cell_of ho 2
  have c1 := cell_of ho 1
  have c4 := cell_of ho 4
  have f4 := frozen_of ho 4
  have hp : p < w.heap.size := (Array.getElem?_eq_some_iff.1 ho).1
  clear ho
  go_enter Try.func17, Try.ntmps17
  go_wp2
  go_quiet (fail)
  go_wp2
  go_ret
  exact ⟨rfl, _, rfl⟩

set_option maxRecDepth 100000 in
set_option maxHeartbeats 400000 in
/-- a slot that is full -/
theorem put_full {w : World} {p : Nat} {each room : Nat} {n dr : Int} {mb : Nat} (ho : w.heap[p]? = some (.cells #[.int .i64 each, .int .i64 room, .map (some mb), .int .i64 n, .int .i64 dr] 71 (0, 0)))
   (i : Int) (h : ¬ i < 1) (t : ByteArray) (c s sn rn : Nat) (buf : Array Value)
   (hl : (Instr.lookup 69 (.map (some mb)) (.int .i64 i) true).run Try.prog w = .ok (.tuple #[.agg #[.chan (some c), .map (some s)], .bool true]) w)
   (hs : ∀ o, (Instr.lookup 49 (.map (some s)) (.string t) false).run Try.prog (w.alloc o) = .ok (.bool false) (w.alloc o))
   (hc : w.heap[c]? = some (.chan each buf false sn rn false)) (hb : each ≤ buf.size)
   (hd1 : -9223372036854775808 ≤ dr) (hd2 : dr + 1 ≤ 9223372036854775807) :
    Calls Try.prog 17 #[.pointer (some ⟨p, 0, none⟩), .int .i64 i, .string t] w fun e w' => e = .returned (.int .i64 4) ∧ ∃ q, w' = (((w.alloc (.cells #[.chan (some c), .map (some s)] 74)).drewN q).setCell ⟨p, 4, none⟩ (.int .i64 (dr + 1))) := by
  have c2 := cell_of ho 2
  have c4 := cell_of ho 4
  have f4 := frozen_of ho 4
  have hp : p < w.heap.size := (Array.getElem?_eq_some_iff.1 ho).1
  have hcl : c < w.heap.size := (Array.getElem?_eq_some_iff.1 hc).1
  clear ho
  go_enter Try.func17, Try.ntmps17
  go_wp2
  go_quiet (fail)
  go_upto_region 14 with (fail)
  have HC : ∀ o q, (((w.alloc o).drewN q).heap)[c]? = some (.chan each buf false sn rn false) := fun o q => (Below.heap_alloc _ _ _ hcl).trans hc
  refine region_select_send_full rfl rfl (zero9 _) rfl rfl (HC _ _) hb ?_
  clear HC
  go_frame
  go_wp2
  go_ret
  exact ⟨rfl, _, rfl⟩
end Go.Proofs.Ytgmgofcclddkiaa
