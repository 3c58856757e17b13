/- The buffer of the program, as a list of things in the order in which they came: what it looks like in memory. -/
import Derived.Test.YtgmgofcclddkiaaProg
import Derived.Test.YtgmgofcclddkiaaSel
import Derived.Test.YtgmgofcclddkiaaMap
import Derived.WalkKit
import Derived.WalkSpells
import Derived.WalkLawsBesides
import Derived.Outline
import Derived.Deep.QuietTactic
import Derived.BigQuiet
import Derived.Lib.Hide
namespace Go.Proofs.Ytgmgofcclddkiaa
open Go.RowKit Go.Maps Go.WideShapes

/-- w' is w but for the blocks of F and for new ones -/
structure Turned (F : Nat → Prop) (w w' : World) : Prop where
  os : w'.os = w.os
  tape : w'.tape = w.tape
  output : w'.output = w.output
  size : w.heap.size ≤ w'.heap.size
  block : ∀ k, k < w.heap.size → ¬ F k → w'.heap[k]? = w.heap[k]?

namespace Turned
variable {F : Nat → Prop} {w w1 w2 : World}
theorem refl (F : Nat → Prop) (w : World) : Turned F w w := ⟨rfl, rfl, rfl, Nat.le_refl _, fun _ _ _ => rfl⟩
theorem trans {F1 : Nat → Prop} (h : Turned F w w1) (k : Turned F1 w1 w2) (hF : ∀ j, F1 j → F j ∨ w.heap.size ≤ j) : Turned F w w2 :=
  ⟨k.os.trans h.os, k.tape.trans h.tape, k.output.trans h.output, Nat.le_trans h.size k.size, fun j hj hn =>
    (k.block j (Nat.lt_of_lt_of_le hj h.size) (fun hf => (hF j hf).elim hn (fun hh => by omega))).trans (h.block j hj hn)⟩
theorem sub {F1 : Nat → Prop} (h : Turned F w w1) (hF : ∀ j, F j → F1 j) : Turned F1 w w1 :=
  ⟨h.os, h.tape, h.output, h.size, fun j hj hn => h.block j hj (fun hf => hn (hF j hf))⟩
theorem alloc (h : Turned F w w1) (o : Obj) : Turned F w (w1.alloc o) :=
  ⟨h.os, h.tape, h.output, by have := h.size; simp; omega, fun j hj hn => (Below.heap_alloc _ _ _ (Nat.lt_of_lt_of_le hj h.size)).trans (h.block j hj hn)⟩
theorem drew (h : Turned F w w1) : Turned F w w1.drew := ⟨h.os, h.tape, h.output, h.size, h.block⟩
theorem drewN (h : Turned F w w1) (n : Nat) : Turned F w (w1.drewN n) := ⟨h.os, h.tape, h.output, h.size, h.block⟩
theorem setCell (h : Turned F w w1) {p : Addr} (hp : F p.block ∨ w.heap.size ≤ p.block) (u : Value) : Turned F w (w1.setCell p u) :=
  ⟨h.os, h.tape, h.output, by have := h.size; simp; omega, fun j hj hn => (Below.heap_setCell _ _ _ _ (fun e => by subst e; exact hp.elim hn (fun hh => by omega))).trans (h.block j hj hn)⟩
theorem grown (h : Turned F w w1) {row : Option Nat} (hg : w1.grownBy w2 row) (hr : ∀ j, row = some j → F j ∨ w.heap.size ≤ j) : Turned F w w2 :=
  ⟨hg.os.trans h.os, hg.tape.trans h.tape, hg.output.trans h.output, Nat.le_trans h.size hg.size, fun j hj hn =>
    (hg.block j (Nat.lt_of_lt_of_le hj h.size) (fun e => (hr j e.symm).elim hn (fun hh => by omega))).trans (h.block j hj hn)⟩
theorem setChan (h : Turned F w w1) {c : Nat} (hc : F c ∨ w.heap.size ≤ c) (cap : Nat) (buf : Array Value) (cl : Bool) (s r : Nat) (tm : Bool) : Turned F w (w1.setChan c cap buf cl s r tm) :=
  ⟨h.os, h.tape, h.output, by have := h.size; simp [World.setChan]; omega, fun j hj hn => by
    refine Eq.trans ?_ (h.block j hj hn)
    simp only [World.setChan]
    rw [Array.getElem?_setIfInBounds_ne (fun e => by subst e; exact hc.elim hn (fun hh => by omega))]⟩
theorem below (h : Turned F w w1) (hF : ∀ j, F j → w.heap.size ≤ j) : Below w.heap.size w w1 :=
  ⟨h.os, h.tape, h.output, h.size, fun j hj => h.block j hj (fun hf => by have := hF j hf; omega)⟩
theorem belowB {B : Nat} (h : Turned F w w1) (hB : B ≤ w.heap.size) (hF : ∀ j, F j → B ≤ j) : Below B w w1 :=
  ⟨h.os, h.tape, h.output, h.size, fun j hj => h.block j (by omega) (fun hf => by have := hF j hf; omega)⟩
theorem of_below (h : Below w.heap.size w w1) : Turned F w w1 := ⟨h.os, h.tape, h.output, h.size, fun j hj _ => h.block j hj⟩
theorem cell (h : Turned F w w1) {a : Addr} (ha : a.block < w.heap.size) (hn : ¬ F a.block) : w1.cell? a = w.cell? a := World.cell?_of_block (w := w) (h.block _ ha hn)
theorem frozen (h : Turned F w w1) {a : Addr} (ha : a.block < w.heap.size) (hn : ¬ F a.block) : w1.frozen? a = w.frozen? a := World.frozen?_of_block (w := w) (h.block _ ha hn)
end Turned

/-! ### the list -/
abbrev Things := List (Int × ByteArray)
def texts (L : Things) (i : Int) : List ByteArray := (L.filter (fun p => p.1 == i)).map (·.2)
def hasI (L : Things) (i : Int) : Bool := L.any (fun p => p.1 == i)
/-- a number among rising numbers, once -/
def insI (x : Int) : List Int → List Int
  | [] => [x]
  | y :: r => if x < y then x :: y :: r else if x = y then y :: r else y :: insI x r
def ivs (L : Things) : List Int := L.foldl (fun acc p => insI p.1 acc) []

def slotV (c s : Nat) : Value := .agg #[.chan (some c), .map (some s)]
def slotZ : Value := .agg #[.chan none, .map none]
def setG (ts : List ByteArray) : Lit → Option Value
  | .string x => if x ∈ ts.map (·.data.toList) then some (.bool true) else none
  | _ => none
def slotG (L : Things) (fc fs : Int → Nat) : Lit → Option Value
  | .int .i64 i => if hasI L i = true then some (slotV (fc i) (fs i)) else none
  | _ => none

structure SlotOK (w : World) (each : Nat) (ts : List ByteArray) (c s : Nat) : Prop where
  chan : ∃ sn rn, w.heap[c]? = some (.chan each (ts.map Value.string).toArray false sn rn false)
  set : MapIs Try.prog 9 w s ts.length (setG ts)

structure Ghost (w : World) (p : Nat) (F : Nat → Prop) (each room : Nat) (L : Things) (dr : Int) (mb : Nat) (fc fs : Int → Nat) : Prop where
  own : w.heap[p]? = some (.cells #[.int .i64 each, .int .i64 room, .map (some mb), .int .i64 L.length, .int .i64 dr] 71 (0, 0))
  slots : MapIs Try.prog 3 w mb (ivs L).length (slotG L fc fs)
  each : ∀ i, hasI L i = true → SlotOK w each (texts L i) (fc i) (fs i)
  apart : ∀ i j, hasI L i = true → hasI L j = true → i ≠ j → fc i ≠ fc j ∧ fs i ≠ fs j
  apart2 : ∀ i, hasI L i = true → fs i ≠ mb
  inF : F p ∧ F mb ∧ ∀ i, hasI L i = true → F (fc i) ∧ F (fs i)
  ltF : ∀ k, F k → k < w.heap.size

/-- what the list bears -/
structure Fine (each room : Nat) (L : Things) : Prop where
  b1 : 1 ≤ each
  b2 : each ≤ 64
  b3 : 1 ≤ room
  b4 : room ≤ 64
  nodup : L.Nodup
  pos : ∀ p ∈ L, 1 ≤ p.1 ∧ p.1 ≤ 9223372036854775807
  small : ∀ p ∈ L, p.2.size ≤ maxLen
  full : ∀ i, (texts L i).length ≤ each
  many : (ivs L).length ≤ room

def Rep (w : World) (p : Nat) (F : Nat → Prop) (each room : Nat) (L : Things) (dr : Int) : Prop :=
  Fine each room L ∧ ∃ mb fc fs, Ghost w p F each room L dr mb fc fs

theorem Rep.own {w : World} {p : Nat} {F : Nat → Prop} {each room : Nat} {L : Things} {dr : Int} (h : Rep w p F each room L dr) :
    ∃ mb, w.heap[p]? = some (.cells #[.int .i64 each, .int .i64 room, .map (some mb), .int .i64 L.length, .int .i64 dr] 71 (0, 0)) := by
  obtain ⟨_, mb, fc, fs, g⟩ := h; exact ⟨mb, g.own⟩

theorem cell_of {w : World} {b : Nat} {xs : Array Value} {t : TypeId} (h : w.heap[b]? = some (.cells xs t (0, 0))) (o : Nat) : w.cell? ⟨b, o, none⟩ = xs[o]? := by
  simp [World.cell?, h]
theorem frozen_of {w : World} {b : Nat} {xs : Array Value} {t : TypeId} (h : w.heap[b]? = some (.cells xs t (0, 0))) (o : Nat) : w.frozen? ⟨b, o, none⟩ = false := by
  simp [World.frozen?, h]

set_option maxHeartbeats 400000 in
theorem size_any {w : World} {p : Nat} {F : Nat → Prop} {each room : Nat} {L : Things} {dr : Int} (h : Rep w p F each room L dr) :
    Calls Try.prog 26 #[.pointer (some ⟨p, 0, none⟩)] w fun e w' => e = .returned (.int .i64 L.length) ∧ w = w' := by
  obtain ⟨mb, ho⟩ := h.own
  have c3 := cell_of ho 3
  clear ho h
  go_enter Try.func26, Try.ntmps26
  go_wp2
  go_ret
  exact ⟨rfl, rfl⟩

set_option maxHeartbeats 400000 in
theorem dropped_any {w : World} {p : Nat} {F : Nat → Prop} {each room : Nat} {L : Things} {dr : Int} (h : Rep w p F each room L dr) :
    Calls Try.prog 27 #[.pointer (some ⟨p, 0, none⟩)] w fun e w' => e = .returned (.int .i64 dr) ∧ w = w' := by
  obtain ⟨mb, ho⟩ := h.own
  have c3 := cell_of ho 4
  clear ho h
  go_enter Try.func27, Try.ntmps27
  go_wp2
  go_ret
  exact ⟨rfl, rfl⟩


theorem keyed3 : Keyed Try.prog 3 := int_keyed Try.underlying3
theorem keyed9 : Keyed Try.prog 9 := string_keyed Try.underlying9
theorem zero74 (w : World) : (zeroValue 74).run Try.prog w = .ok slotZ w := by kernel_rfl
theorem zero4 (w : World) : (zeroValue 4).run Try.prog w = .ok (.bool false) w := by kernel_rfl
theorem zero9 (w : World) : (zeroValue 9).run Try.prog w = .ok (.string ByteArray.empty) w := by kernel_rfl
theorem fld74_1 (c s : Option Nat) (w : World) : (Instr.field 74 (.agg #[.chan c, .map s]) 1).run Try.prog w = .ok (.map s) w := by kernel_rfl
theorem wf_i (i : Int) (h1 : -9223372036854775808 ≤ i) (h2 : i ≤ 9223372036854775807) : (Lit.int .i64 i).wf = true := WalkArith.wf_i64 (by omega)

theorem hasI_iff (L : Things) (i : Int) : hasI L i = true ↔ ∃ t, (i, t) ∈ L := by
  unfold hasI
  rw [List.any_eq_true]
  constructor
  · rintro ⟨⟨j, t⟩, hm, he⟩
    simp only [beq_iff_eq] at he
    subst he; exact ⟨t, hm⟩
  · rintro ⟨t, hm⟩
    exact ⟨_, hm, by simp⟩
theorem mem_texts (L : Things) (i : Int) (t : ByteArray) : t ∈ texts L i ↔ (i, t) ∈ L := by
  unfold texts
  simp only [List.mem_map, List.mem_filter, beq_iff_eq]
  constructor
  · rintro ⟨⟨j, u⟩, ⟨hm, rfl⟩, rfl⟩; exact hm
  · intro h; exact ⟨_, ⟨h, rfl⟩, rfl⟩
theorem toList_inj {a b : ByteArray} (h : a.data.toList = b.data.toList) : a = b := by
  cases a; cases b; simp only [ByteArray.mk.injEq]; exact Array.toList_inj.1 h
open Classical in
/-- is the thing there -/
noncomputable def hasT (L : Things) (i : Int) (t : ByteArray) : Bool := decide ((i, t) ∈ L)
theorem hasT_iff (L : Things) (i : Int) (t : ByteArray) : hasT L i t = true ↔ (i, t) ∈ L := by unfold hasT; simp
theorem setG_eq (L : Things) (i : Int) (t : ByteArray) : (setG (texts L i) (.string t.data.toList)).getD (.bool false) = .bool (hasT L i t) := by
  by_cases h : t ∈ texts L i
  · have : t.data.toList ∈ (texts L i).map (·.data.toList) := List.mem_map.2 ⟨t, h, rfl⟩
    have h2 : hasT L i t = true := (hasT_iff L i t).2 ((mem_texts L i t).1 h)
    simp only [setG]; rw [if_pos this, h2]; rfl
  · have : ¬ t.data.toList ∈ (texts L i).map (·.data.toList) := fun hm => by
      obtain ⟨u, hu, e⟩ := List.mem_map.1 hm
      exact h (toList_inj e ▸ hu)
    have h2 : hasT L i t = false := by
      cases hh : hasT L i t
      · rfl
      · exact absurd ((mem_texts L i t).2 ((hasT_iff L i t).1 hh)) h
    simp only [setG]; rw [if_neg this, h2]; rfl
theorem hasT_no {L : Things} {i : Int} (hi : ¬ hasI L i = true) (t : ByteArray) : hasT L i t = false := by
  cases hh : hasT L i t
  · rfl
  · exact absurd ((hasI_iff L i).2 ⟨t, (hasT_iff L i t).1 hh⟩) hi

section
variable {w : World} {p : Nat} {F : Nat → Prop} {each room : Nat} {L : Things} {dr : Int} {mb : Nat} {fc fs : Int → Nat}
theorem Ghost.look (g : Ghost w p F each room L dr mb fc fs) (i : Int) (h1 : -9223372036854775808 ≤ i) (h2 : i ≤ 9223372036854775807) :
    (Instr.lookup 69 (.map (some mb)) (.int .i64 i) false).run Try.prog w = .ok (if hasI L i = true then slotV (fc i) (fs i) else slotZ) w := by
  rw [g.slots.look keyed3 Try.underlying69 (zero74 w) (keyOf_int_mk Try.underlying3 (wf_i i h1 h2))]
  simp only [slotG]
  split <;> rfl
theorem Ghost.look_ok (g : Ghost w p F each room L dr mb fc fs) (i : Int) (h1 : -9223372036854775808 ≤ i) (h2 : i ≤ 9223372036854775807) :
    (Instr.lookup 69 (.map (some mb)) (.int .i64 i) true).run Try.prog w = .ok (.tuple #[if hasI L i = true then slotV (fc i) (fs i) else slotZ, .bool (hasI L i)]) w := by
  rw [g.slots.look_ok keyed3 Try.underlying69 (zero74 w) (keyOf_int_mk Try.underlying3 (wf_i i h1 h2))]
  simp only [slotG]
  split <;> simp_all
end

set_option maxRecDepth 100000 in
set_option maxHeartbeats 400000 in
theorem has_any {w : World} {p : Nat} {F : Nat → Prop} {each room : Nat} {L : Things} {dr : Int} (h : Rep w p F each room L dr) (i : Int) (t : ByteArray)
    (h1 : -9223372036854775808 ≤ i) (h2 : i ≤ 9223372036854775807) (ht : t.size ≤ maxLen) :
    Calls Try.prog 28 #[.pointer (some ⟨p, 0, none⟩), .int .i64 i, .string t] w fun e w' => e = .returned (.bool (hasT L i t)) ∧ w = w' := by
  obtain ⟨hf, mb, fc, fs, g⟩ := h
  have c2 := cell_of g.own 2
  have hl := g.look i h1 h2
  have hk := Go.WideMaps.keyOf_string_mk Try.underlying9 ht
  by_cases hi : hasI L i = true
  · have hs := (g.each i hi).set.look keyed9 Try.underlying49 (zero4 w) hk
    rw [setG_eq] at hs
    rw [if_pos hi, slotV] at hl
    generalize hasT L i t = r at *
    generalize fc i = ci at *
    generalize fs i = si at *
    clear hi hk g hf h1 h2 ht
    have hfl := fld74_1 (some ci) (some si) w
    go_enter Try.func28, Try.ntmps28
    go_wp2
    go_ret
    exact ⟨rfl, rfl⟩
  · have hn := hasT_no hi t
    have hs := look_nil (w := w) false keyed9 Try.underlying49 (zero4 w) hk
    simp only [Bool.false_eq_true, if_false] at hs
    rw [hn]
    rw [if_neg hi, slotZ] at hl
    clear hn hi hk g hf h1 h2 ht
    have hfl := fld74_1 none none w
    go_enter Try.func28, Try.ntmps28
    go_wp2
    go_ret
    exact ⟨rfl, rfl⟩

end Go.Proofs.Ytgmgofcclddkiaa
