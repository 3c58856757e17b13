/- What a select of one case with a default does, in one goroutine, as a rule for a region that opens with it; for every program. Conditions: the channel is open and the block is a channel's. -/
import Derived.Conc.LoneSelect
import Derived.WalkKit
namespace Go.Proofs.Ytgmgofcclddkiaa
open Go.Conc Go.RowKit

theorem region_from_step {P : Program} {id : Nat} {ops : Array Oper} {Q : Exit → Act → World → Prop} {a : Act} {w w1 : World} {o : Oper} {rest : List Nat} {v : Value}
    (hr : List.range ops.size = 0 :: rest) (ho : ops[0]? = some o)
    (hs : ∀ (b : Frame) (k : List Item) (cs : List Frame), step P (solo (G (b.at a (.inRegion ops (0 :: rest) :: k)) cs) w) = .next (solo (G ((b.at a (.inRegion ops (0 :: rest) :: k)).finish v) cs) w1))
    (h : wpOps P ops Q rest (a.put o.dst v) w1) : (Code.region id ops false).wp P Q a w := by
  intro b k cs
  obtain ⟨e, a', w', hq, harr⟩ := wp_ops rest _ _ h b k cs
  refine ⟨e, a', w', hq, .of_steps (Steps.head step_region ?_) harr⟩
  rw [hr]
  have h1 := hs b k cs
  rw [Frame.finish_at, ho] at h1
  exact .one h1

theorem stepG_select {P : Program} {ops : Array Oper} {a : Act} {w : World} {o : Oper} {rest : List Nat} {ch : Operand} {sv : Option Operand} {elem : TypeId} {z : Value}
    (ho : ops[0]? = some o) (hg : o.guard = none) (hop : o.op = .select #[{ chan := ch, send := sv, elem := elem }] false)
    (hz : (zeroValue elem).run P w = .ok z w) (b : Frame) (k : List Item) (cs : List Frame) :
    ∃ es, stepG P true (G (b.at a (.inRegion ops (0 :: rest) :: k)) cs) w = .comm (G (b.at a (.inRegion ops (0 :: rest) :: k)) cs) #[{ chan := a.eval ch, send := sv.map a.eval, zero := z }] false .select w es := by
  have hw : Region.wanted o (yielded ops a.tmps) = true := by simp [Region.wanted, hg]
  have e := stepG_op (P := P) (b := b) (k := k) (cs := cs) (w := w) (rest := rest) ho hw
  have hx : (execOp a.eval o).run P w = .ok (.comm #[{ chan := a.eval ch, send := sv.map a.eval, zero := z }] false .select) w := by
    simp [execOp, hop, hz, Result.andThen]
  unfold G
  rw [e]
  simp [stepG.apply, Sem.runT_eq, hx]
  exact ⟨_, rfl⟩


section
variable {P : Program} {id : Nat} {l : List Oper} {Q : Exit → Act → World → Prop} {a : Act} {w : World} {o : Oper} {ch : Operand} {elem : TypeId} {z x : Value} {c cap s r : Nat} {buf : Array Value} {tm closed : Bool}

theorem range_cons (o : Oper) (l : List Oper) : List.range (o :: l).toArray.size = 0 :: List.range' 1 l.length := by
  simp [List.range_eq_range', List.range'_succ]
theorem ops_tail (o : Oper) (l : List Oper) : wpOps P (o :: l).toArray Q (List.range' 1 l.length) = wpList P (o :: l).toArray Q l :=
  wpOps_eq_wpList l 1 (fun j => by simp [Nat.add_comm 1 j])

/-- a send case with room -/
theorem region_select_send_room {sx : Operand} (hg : o.guard = none) (hop : o.op = .select #[{ chan := ch, send := some sx, elem := elem }] false)
    (hz : (zeroValue elem).run P w = .ok z w) (hch : a.eval ch = .chan (some c)) (hx : a.eval sx = x) (hc : w.heap[c]? = some (.chan cap buf false s r tm)) (hroom : buf.size < cap)
    (h : wpList P (o :: l).toArray Q l (a.put o.dst (.tuple #[goInt 0, .bool false])) (w.setChan c cap (buf.push x) false (s + 1) r tm)) : (Code.region id (o :: l).toArray false).wp P Q a w := by
  refine region_from_step (o := o) (range_cons o l) (by simp) (fun b k cs => ?_) (by rw [ops_tail]; exact h)
  obtain ⟨es, he⟩ := stepG_select (P := P) (a := a) (ops := (o :: l).toArray) (rest := List.range' 1 l.length) (by simp) hg hop hz b k cs
  simp only [hch, Option.map_some, hx] at he
  exact step_lone_select_send_room he hc hroom

/-- a send case without room: the default -/
theorem region_select_send_full {sx : Operand} (hg : o.guard = none) (hop : o.op = .select #[{ chan := ch, send := some sx, elem := elem }] false)
    (hz : (zeroValue elem).run P w = .ok z w) (hch : a.eval ch = .chan (some c)) (hx : a.eval sx = x) (hc : w.heap[c]? = some (.chan cap buf false s r tm)) (hfull : cap ≤ buf.size)
    (h : wpList P (o :: l).toArray Q l (a.put o.dst (.tuple #[goInt (-1), .bool false])) w) : (Code.region id (o :: l).toArray false).wp P Q a w := by
  refine region_from_step (o := o) (range_cons o l) (by simp) (fun b k cs => ?_) (by rw [ops_tail]; exact h)
  obtain ⟨es, he⟩ := stepG_select (P := P) (a := a) (ops := (o :: l).toArray) (rest := List.range' 1 l.length) (by simp) hg hop hz b k cs
  simp only [hch, Option.map_some, hx] at he
  exact step_lone_select_send_full he hc hfull

/-- a receive case, the buffer holds something -/
theorem region_select_recv_buf (hg : o.guard = none) (hop : o.op = .select #[{ chan := ch, send := none, elem := elem }] false)
    (hz : (zeroValue elem).run P w = .ok z w) (hch : a.eval ch = .chan (some c)) (hc : w.heap[c]? = some (.chan cap buf closed s r tm)) (hsome : 0 < buf.size)
    (h : wpList P (o :: l).toArray Q l (a.put o.dst (.tuple #[goInt 0, .bool true, buf.getD 0 undef])) (w.setChan c cap (buf.extract 1 buf.size) closed s (r + 1) tm)) : (Code.region id (o :: l).toArray false).wp P Q a w := by
  refine region_from_step (o := o) (range_cons o l) (by simp) (fun b k cs => ?_) (by rw [ops_tail]; exact h)
  obtain ⟨es, he⟩ := stepG_select (P := P) (a := a) (ops := (o :: l).toArray) (rest := List.range' 1 l.length) (by simp) hg hop hz b k cs
  simp only [hch, Option.map_none] at he
  exact step_lone_select_recv_buf he hc hsome

/-- a receive case, the buffer written out -/
theorem region_select_recv_cons {xs : List Value} (hg : o.guard = none) (hop : o.op = .select #[{ chan := ch, send := none, elem := elem }] false)
    (hz : (zeroValue elem).run P w = .ok z w) (hch : a.eval ch = .chan (some c)) (hc : w.heap[c]? = some (.chan cap (x :: xs).toArray closed s r tm))
    (h : wpList P (o :: l).toArray Q l (a.put o.dst (.tuple #[goInt 0, .bool true, x])) (w.setChan c cap xs.toArray closed s (r + 1) tm)) : (Code.region id (o :: l).toArray false).wp P Q a w := by
  refine region_select_recv_buf hg hop hz hch hc (by simp) ?_
  simpa using h

/-- a receive case over an open channel that holds nothing: the default -/
theorem region_select_recv_none (hg : o.guard = none) (hop : o.op = .select #[{ chan := ch, send := none, elem := elem }] false)
    (hz : (zeroValue elem).run P w = .ok z w) (hch : a.eval ch = .chan (some c)) (hc : w.heap[c]? = some (.chan cap #[] false s r tm))
    (h : wpList P (o :: l).toArray Q l (a.put o.dst (.tuple #[goInt (-1), .bool false, z])) w) : (Code.region id (o :: l).toArray false).wp P Q a w := by
  refine region_from_step (o := o) (range_cons o l) (by simp) (fun b k cs => ?_) (by rw [ops_tail]; exact h)
  obtain ⟨es, he⟩ := stepG_select (P := P) (a := a) (ops := (o :: l).toArray) (rest := List.range' 1 l.length) (by simp) hg hop hz b k cs
  simp only [hch, Option.map_none] at he
  exact step_lone_select_default he hc
end
end Go.Proofs.Ytgmgofcclddkiaa
