/- The law BufferOnce, plain part: the law's own map of what lies in the buffer. -/
import Derived.Test.YtgmgofcclddkiaaOps
import Derived.Test.YtgmgofcclddkiaaRng
import Derived.Deep.RegionLaw
namespace Go.Proofs.Ytgmgofcclddkiaa
open Go.RowKit Go.Maps Go.WideShapes

theorem hasI_keep (L : Things) (p : Int → Bool) (i : Int) : hasI (L.filter (fun q => p q.1)) i = (hasI L i && p i) := by
  rw [Bool.eq_iff_iff, Bool.and_eq_true, hasI_iff, hasI_iff]
  constructor
  · rintro ⟨t, h⟩
    rw [List.mem_filter] at h
    exact ⟨⟨t, h.1⟩, h.2⟩
  · rintro ⟨⟨t, h⟩, hp⟩
    exact ⟨t, List.mem_filter.2 ⟨h, hp⟩⟩
theorem texts_keep (L : Things) (p : Int → Bool) {i : Int} (hp : p i = true) : texts (L.filter (fun q => p q.1)) i = texts L i := by
  unfold texts
  rw [List.filter_filter]
  congr 1
  refine List.filter_congr (fun q _ => ?_)
  by_cases h : q.1 = i
  · rw [h, hp]; simp
  · have : (q.1 == i) = false := by simpa using h
    rw [this]; simp
theorem keep_add (L : Things) (p p' : Int → Bool) (i : Int) (h0 : p i = false) (h1 : ∀ j, p' j = (p j || j == i)) : (L.filter (fun q => p' q.1)).length = (L.filter (fun q => p q.1)).length + (texts L i).length := by
  unfold texts
  induction L with
  | nil => simp
  | cons q r ih =>
    simp only [List.filter_cons, List.length_map] at ih ⊢
    rw [h1 q.1]
    by_cases hq : q.1 = i
    · rw [hq, h0]; simp; omega
    · have : (q.1 == i) = false := by simpa using hq
      rw [this]
      cases p q.1
      · simp; omega
      · simp; omega
theorem keep_part (L : Things) (p : Int → Bool) : (L.filter (fun q => p q.1)).length + (L.filter (fun q => !p q.1)).length = L.length := by
  induction L with
  | nil => simp
  | cons q r ih =>
    simp only [List.filter_cons]
    cases p q.1
    · simp; omega
    · simp; omega
theorem len_texts_le (L : Things) (i : Int) : (texts L i).length ≤ L.length := by have := len_takeL L i; omega
theorem keep_all (L : Things) (p : Int → Bool) (h : ∀ i, hasI L i = true → p i = true) : L.filter (fun q => p q.1) = L :=
  List.filter_eq_self.2 (fun q hq => h q.1 ((hasI_iff _ _).2 ⟨q.2, hq⟩))
theorem keep_none (L : Things) (p : Int → Bool) (h : ∀ i, p i = false) : L.filter (fun q => p q.1) = [] :=
  List.filter_eq_nil_iff.2 (fun q _ => by rw [h]; simp)
theorem keep_congr (L : Things) (p p' : Int → Bool) (h : ∀ i, p i = p' i) : L.filter (fun q => p q.1) = L.filter (fun q => p' q.1) := by
  have : p = p' := funext h
  rw [this]
theorem takeL_keep (L : Things) (p : Int → Bool) (i : Int) : takeL (L.filter (fun q => p q.1)) i = L.filter (fun q => p q.1 && !(q.1 == i)) := by
  unfold takeL
  rw [List.filter_filter]
  exact List.filter_congr (fun q _ => Bool.and_comm _ _)

/-- what the law's map says: an interval's texts, in a slice of its own -/
def lieG (L : Things) (f : Int → Value) : Lit → Option Value
  | .int .i64 i => if hasI L i then some (f i) else none
  | _ => none
def RowsOf (B : Nat) (w : World) (N : List Nat) (L : Things) (f : Int → Value) : Prop :=
  ∀ i, hasI L i = true → w.ownsRow B 9 1 (f i) (texts L i).length ((texts L i).map Value.string) ∧ (∀ k ∈ blockOf (f i), k ∈ N) ∧
    ∀ j, hasI L j = true → i ≠ j → ∀ k ∈ blockOf (f i), k ∉ blockOf (f j)
def vset (f : Int → Value) (i : Int) (v : Value) : Int → Value := fun j => if j = i then v else f j
theorem vset_same (f : Int → Value) (i : Int) (v : Value) : vset f i v i = v := if_pos rfl
theorem vset_other (f : Int → Value) {i j : Int} (h : j ≠ i) (v : Value) : vset f i v j = f j := if_neg h

theorem lieG_none (f : Int → Value) (l : Lit) : lieG [] f l = none := by
  unfold lieG; split <;> simp [hasI]
theorem lieG_i (L : Things) (f : Int → Value) (i : Int) : lieG L f (.int .i64 i) = if hasI L i then some (f i) else none := rfl
theorem lieG_snoc (L : Things) (f : Int → Value) (i : Int) (t : ByteArray) (v : Value) (l : Lit) : lieG (L ++ [(i, t)]) (vset f i v) l = upd (lieG L f) (.int .i64 i) (some v) l := by
  by_cases h : l = .int .i64 i
  · subst h
    rw [upd_same, lieG_i, hasI_snoc, vset_same]; simp
  · rw [upd_other _ h]
    unfold lieG
    split
    · rename_i j
      have hj : j ≠ i := fun e => h (by rw [e])
      have hij : (i == j) = false := by simpa using fun e : i = j => hj e.symm
      rw [hasI_snoc, hij, Bool.or_false, vset_other f hj]
    · rfl
theorem lieG_take (L : Things) (f : Int → Value) (i : Int) (l : Lit) : lieG (takeL L i) f l = upd (lieG L f) (.int .i64 i) none l := by
  have e : takeL L i = L.filter (fun q => !(q.1 == i)) := rfl
  by_cases h : l = .int .i64 i
  · subst h
    rw [upd_same, lieG_i, e, hasI_keep L (fun j => !(j == i))]; simp
  · rw [upd_other _ h]
    unfold lieG
    split
    · rename_i j
      have hj : (j == i) = false := by simpa using fun e => h (by rw [e])
      rw [e, hasI_keep L (fun j => !(j == i)), hj]; simp
    · rfl

section
variable {B : Nat} {w w' w1 : World} {N N' : List Nat} {L : Things} {f : Int → Value}
theorem RowsOf.keep (h : RowsOf B w N L f) (hs : ∀ i, hasI L i = true → ∀ k ∈ blockOf (f i), w'.heap[k]? = w.heap[k]?) : RowsOf B w' N L f := fun i hi =>
  ⟨row_keep (h i hi).1 (hs i hi), (h i hi).2⟩
theorem RowsOf.same (h : RowsOf B w N L f) (hs : Same N w w') : RowsOf B w' N L f := h.keep (fun i hi k hk => hs.2 k ((h i hi).2.1 k hk))
theorem RowsOf.sub (h : RowsOf B w N L f) (hs : ∀ k ∈ N, k ∈ N') : RowsOf B w N' L f := fun i hi => ⟨(h i hi).1, fun k hk => hs k ((h i hi).2.1 k hk), (h i hi).2.2⟩
theorem RowsOf.turned {n mb : Nat} {g : Lit → Option Value} (h : RowsOf B w N L f) (hm : MapIs Try.prog 3 w mb n g) (ht : w.mapTurned w' mb) : RowsOf B w' N L f := fun i hi =>
  ⟨row_turned (h i hi).1 hm ht, (h i hi).2⟩
theorem RowsOf.filt (h : RowsOf B w N L f) (p : Int → Bool) : RowsOf B w N (L.filter (fun q => p q.1)) f := fun i hi => by
  rw [hasI_keep, Bool.and_eq_true] at hi
  obtain ⟨a, b, c⟩ := h i hi.1
  refine ⟨by rw [texts_keep L p hi.2]; exact a, b, fun j hj => c j ?_⟩
  rw [hasI_keep, Bool.and_eq_true] at hj; exact hj.1
theorem RowsOf.cong (h : RowsOf B w N L f) {L' : Things} (e : L' = L) : RowsOf B w N L' f := by rw [e]; exact h
/-- what a look-up answers -/
def lieV (L : Things) (f : Int → Value) (i : Int) : Value := (lieG L f (.int .i64 i)).getD (.slice none 0 0)
theorem RowsOf.look (h : RowsOf B w N L f) (i : Int) : w.ownsRow B 9 1 (lieV L f i) (texts L i).length ((texts L i).map Value.string) ∧ ∀ k ∈ blockOf (lieV L f i), k ∈ N ∧ hasI L i = true ∧ k ∈ blockOf (f i) := by
  unfold lieV
  rw [lieG_i]
  by_cases hi : hasI L i = true
  · rw [if_pos hi]; exact ⟨(h i hi).1, fun k hk => ⟨(h i hi).2.1 k hk, hi, hk⟩⟩
  · rw [if_neg hi, texts_no hi]
    exact ⟨World.ownsRow_nil _ _ _ _, fun k hk => by simp [blockOf, Value.ownBlock] at hk⟩
/-- one more text of interval i, by an append onto its slice -/
theorem RowsOf.snoc (h : RowsOf B w N L f) (i : Int) (t : ByteArray) {v' : Value} (hrow : w'.ownsRow B 9 1 v' ((texts L i).length + 1) ((texts L i).map Value.string ++ [.string t]))
    (hg : w.grownBy w' (lieV L f i).ownBlock) (hloc : v'.ownBlock = (lieV L f i).ownBlock ∨ v'.ownBlock = some w.heap.size) : RowsOf B w' (blockOf v' ++ N) (L ++ [(i, t)]) (vset f i v') := by
  have hlk := h.look i
  have hold : ∀ j, hasI L j = true → j ≠ i → ∀ k ∈ blockOf (f j), k < w.heap.size ∧ some k ≠ (lieV L f i).ownBlock := fun j hj hji k hk => by
    refine ⟨(row_lt (h j hj).1 k hk).2, fun e => ?_⟩
    obtain ⟨_, hi, hb⟩ := hlk.2 k (by simp [blockOf, ← e])
    exact (h j hj).2.2 i hi hji k hk hb
  have hnew : ∀ j, hasI L j = true → j ≠ i → ∀ k ∈ blockOf (f j), k ∉ blockOf v' := fun j hj hji k hk hkv => by
    obtain ⟨h1, h2⟩ := hold j hj hji k hk
    have e : v'.ownBlock = some k := by simpa [blockOf] using hkv
    rcases hloc with h3 | h3
    · exact h2 (by rw [← h3, e])
    · rw [e] at h3; simp at h3; omega
  intro j hj
  by_cases hji : j = i
  · subst hji
    rw [vset_same, texts_snoc, if_pos rfl]
    refine ⟨by rw [List.length_append, List.map_append]; exact hrow, fun k hk => List.mem_append.2 (.inl hk), fun m hm hjm k hk hk' => ?_⟩
    rw [vset_other f (Ne.symm hjm)] at hk'
    have hm' : hasI L m = true := by
      rw [hasI_snoc] at hm
      have : (j == m) = false := by simpa using hjm
      rw [this] at hm; simpa using hm
    exact hnew m hm' (Ne.symm hjm) k hk' hk
  · have hj' : hasI L j = true := by
      rw [hasI_snoc] at hj
      have : (i == j) = false := by simpa using fun e : i = j => hji e.symm
      rw [this] at hj; simpa using hj
    rw [vset_other f hji, texts_snoc, if_neg (Ne.symm hji)]
    refine ⟨row_keep (h j hj').1 (fun k hk => hg.block k (hold j hj' hji k hk).1 (hold j hj' hji k hk).2), fun k hk => List.mem_append.2 (.inr ((h j hj').2.1 k hk)), fun m hm hjm k hk => ?_⟩
    by_cases hmi : m = i
    · subst hmi; rw [vset_same]; exact hnew j hj' hji k hk
    · rw [vset_other f hmi]
      have hm' : hasI L m = true := by
        rw [hasI_snoc] at hm
        have : (i == m) = false := by simpa using fun e : i = m => hmi e.symm
        rw [this] at hm; simpa using hm
      exact (h j hj').2.2 m hm' hjm k hk
end

/-- the law under way, act k: what lies in the buffer (L) is what the law's map says -/
def Lying (B : Nat) (w0 : World) (p each room mb k : Nat) (N0 : List Nat) (L : Things) (w : World) : Prop :=
  ∃ dr n f N, 0 ≤ dr ∧ dr ≤ (k : Int) ∧ n ≤ k ∧ L.length ≤ k ∧ mb ∈ N ∧ B ≤ mb ∧ (∀ j ∈ N0, j ∈ N) ∧ BufAt B w0 w p each room L dr N ∧ MapIs Try.prog 3 w mb n (lieG L f) ∧ RowsOf B w N L f
theorem Lying.sub {B : Nat} {w0 w : World} {p each room mb k : Nat} {N0 N1 : List Nat} {L : Things} (h : Lying B w0 p each room mb k N0 L w) (hs : ∀ j ∈ N1, j ∈ N0) : Lying B w0 p each room mb k N1 L w := by
  obtain ⟨dr, n, f, N, a, b, c, d, e, e', g, h⟩ := h
  exact ⟨dr, n, f, N, a, b, c, d, e, e', fun j hj => g j (hs j hj), h⟩

/-- Drop: those below X that the range has met are struck -/
def keepD (X : Int) (lt : Int → Bool) : Int → Bool := fun j => !decide (j < X) || lt j
def metD (X : Int) (lt : Int → Bool) : Int → Bool := fun j => decide (j < X) && !lt j
theorem keepD_all (L : Things) (X : Int) (lt : Int → Bool) (h : ∀ i, hasI L i = true → lt i = true) : L.filter (fun q => keepD X lt q.1) = L := keep_all L _ (fun i hi => by unfold keepD; rw [h i hi]; simp)
theorem keepD_end (L : Things) (X : Int) (lt : Int → Bool) (h : ∀ i, lt i = false) : L.filter (fun q => keepD X lt q.1) = dropL L X := by
  unfold dropL
  exact List.filter_congr (fun q _ => by unfold keepD; rw [h]; simp)
theorem keepD_skip (L : Things) (X : Int) (lt : Int → Bool) {i : Int} (h : ¬ i < X) : L.filter (fun q => keepD X (fun j => lt j && !(j == i)) q.1) = L.filter (fun q => keepD X lt q.1) := by
  refine keep_congr L _ _ (fun j => ?_)
  unfold keepD
  by_cases hj : j = i
  · subst hj; simp [h]
  · have : (j == i) = false := by simpa using hj
    simp [this]
theorem keepD_take (L : Things) (X : Int) (lt : Int → Bool) {i : Int} (h : i < X) : L.filter (fun q => keepD X (fun j => lt j && !(j == i)) q.1) = takeL (L.filter (fun q => keepD X lt q.1)) i := by
  rw [takeL_keep]
  refine keep_congr L (keepD X (fun j => lt j && !(j == i))) (fun j => keepD X lt j && !(j == i)) (fun j => ?_)
  unfold keepD
  by_cases hj : j = i
  · subst hj; simp [h]
  · have : (j == i) = false := by simpa using hj
    simp [this]
theorem metD_none (L : Things) (X : Int) (lt : Int → Bool) (h : ∀ i, hasI L i = true → lt i = true) : (L.filter (fun q => metD X lt q.1)).length = 0 := by
  rw [List.length_eq_zero_iff, List.filter_eq_nil_iff]
  intro q hq
  unfold metD
  rw [h q.1 ((hasI_iff _ _).2 ⟨q.2, hq⟩)]; simp
theorem metD_skip (L : Things) (X : Int) (lt : Int → Bool) {i : Int} (h : ¬ i < X) : (L.filter (fun q => metD X (fun j => lt j && !(j == i)) q.1)).length = (L.filter (fun q => metD X lt q.1)).length := by
  rw [keep_congr L (metD X (fun j => lt j && !(j == i))) (metD X lt) (fun j => ?_)]
  unfold metD
  by_cases hj : j = i
  · subst hj; simp [h]
  · have : (j == i) = false := by simpa using hj
    simp [this]
theorem metD_add (L : Things) (X : Int) (lt : Int → Bool) {i : Int} (h : i < X) (hl : lt i = true) : (L.filter (fun q => metD X (fun j => lt j && !(j == i)) q.1)).length = (L.filter (fun q => metD X lt q.1)).length + (texts L i).length := by
  refine keep_add L (metD X lt) (metD X (fun j => lt j && !(j == i))) i (by unfold metD; rw [hl]; simp) (fun j => ?_)
  unfold metD
  by_cases hj : j = i
  · subst hj; simp [h]
  · have : (j == i) = false := by simpa using hj
    simp [this]
theorem metD_end (L : Things) (X : Int) (lt : Int → Bool) (h : ∀ i, lt i = false) : (L.filter (fun q => metD X lt q.1)).length + (dropL L X).length = L.length := by
  have e1 : L.filter (fun q => metD X lt q.1) = L.filter (fun q => decide (q.1 < X)) := List.filter_congr (fun q _ => by unfold metD; rw [h]; simp)
  rw [e1]
  exact keep_part L (fun j => decide (j < X))
theorem metD_le (L : Things) (X : Int) (lt : Int → Bool) : (L.filter (fun q => metD X lt q.1)).length ≤ L.length := List.length_filter_le _ _

theorem row_ne_cells {w : World} {base : Nat} {e e' : TypeId} {size : Nat} {v : Value} {n : Nat} {xs : List Value} (h : w.ownsRow base e size v n xs) {b : Nat} {ys : Array Value} {q : Nat × Nat} (hm : w.heap[b]? = some (.cells ys e' q)) (he : e' ≠ e) : some b ≠ v.ownBlock := by
  rcases h.2 with ⟨rfl, _⟩ | ⟨g, cap, cur, rfl, _, hg, _⟩
  · simp [Value.ownBlock]
  · simp only [Value.ownBlock, ne_eq, Option.some.injEq]
    intro e; subst e; rw [hg] at hm; simp only [Option.some.injEq, Obj.cells.injEq] at hm; exact he hm.2.1.symm

/-- an append onto a row of one's own, as a step of a region that draws -/
theorem step_append_own_at {P : Program} {ops : Array Oper} {o : Oper} {a : Act} {w : World} {K : Act → World → Prop} {Q : Exit → Act → World → Prop} {E : Prop}
    (hgd : o.guard = none) (s x : Operand) (t : TypeId) (ho : o.op = .call { callee := .builtin .append, args := #[s, x], argTypes := #[t, t] })
    (base : Nat) (e : TypeId) (i : TypeInfo) (z : Value) (size bytes : Nat) (ht : P.underlying t = some (.slice e)) (hi : P.info? e = some i) (hz : i.zero = some z)
    (hsize : i.size = size) (hby : i.bytes = bytes) (hzs : z.cells.size = size) (hsz : 0 < size)
    (v : Value) (n : Nat) (xs : List Value) (hs : a.eval s = v) (hown : w.ownsRow base e size v n xs)
    (ad : Addr) (m c : Nat) (news : List Value) (hx : a.eval x = .slice (some ad) m c) (hl : news.length = m * size) (hnews : ∀ j u, news[j]? = some u → w.cell? (ad.add j) = some u) (h1 : ∀ u ∈ news, u.oneCell' = true)
    (h63 : n + m ≤ maxLen) (hbytes : (n + m) * bytes ≤ 140737488355328) (hbase : base ≤ w.heap.size)
    (h : ∀ v' w', w'.ownsRow base e size v' (n + m) (xs ++ news) → w.grownBy w' v.ownBlock → (v' = .slice none 0 0 ↔ v = .slice none 0 0 ∧ m = 0) → (v'.ownBlock = v.ownBlock ∨ v'.ownBlock = some w.heap.size) → K (a.put o.dst v') w') :
    if Region.wanted o (yielded ops a.tmps) = true then Oper.wp P o a w K Q else E := by
  have hw : Region.wanted o (yielded ops a.tmps) = true := by simp [Region.wanted, hgd]
  rw [if_pos hw]
  obtain ⟨v', w', hr, h2, h3, h4, h5⟩ := run_append_own_at (P := P) w base t o.type e i z size bytes ht hi hz hsize hby hzs hsz v n xs hown ad m c news hl hnews h1 h63 hbytes hbase
  unfold Oper.wp execOp
  simp only [ho, resolve, invoke, builtin, Sem.run_bind, Sem.run_pure, Result.andThen_ok, List.map_toArray, List.map_cons, List.map_nil, hs, hx, hr]
  exact h v' w' h2 h3 h4 h5

theorem lying_put {B : Nat} {w0 w4 w5 w6 : World} {p each room mb lb k : Nat} {L : Things} {dr : Int} {n : Nat} {f : Int → Value} {N : List Nat} {i : Int} {t : ByteArray} {tl : Nat} {v' : Value} {ob : Obj}
    (h0 : 0 ≤ dr) (h1 : dr ≤ (k : Int)) (h2 : n ≤ k) (h3 : L.length ≤ k) (hmb : mb ∈ N) (hB : B ≤ mb)
    (hb : BufAt B w0 w4 p each room (L ++ [(i, t)]) dr (lb :: N)) (hm4 : MapIs Try.prog 3 w4 mb n (lieG L f)) (hr : RowsOf B w4 N L f) (htl : tl = (texts L i).length)
    (hown : w5.ownsRow B 9 1 v' (tl + 1) ((texts L i).map Value.string ++ [.string t])) {u : Value} (hu : lieV L f i = u) (hg : ((w4.alloc ob).drew).grownBy w5 u.ownBlock)
    (hlo : v'.ownBlock = u.ownBlock ∨ v'.ownBlock = some ((w4.alloc ob).drew).heap.size)
    (hm : MapIs Try.prog 3 w6 mb (n + 1) (upd (lieG L f) (.int .i64 i) (some v'))) (ht : w5.mapTurned w6 mb) :
    Lying B w0 p each room mb (k + 1) [] (L ++ [(i, t)]) w6 := by
  subst htl hu
  have hra : RowsOf B ((w4.alloc ob).drew) N L f := hr.keep (fun j hj k hk => (MapKept.heap_alloc w4 ob).2 _ (row_lt (hr j hj).1 k hk).2)
  have hr5 := hra.snoc i t hown hg hlo
  have hlk := (hra.look i)
  have hba : BufAt B w0 ((w4.alloc ob).drew) p each room (L ++ [(i, t)]) dr (blockOf (lieV L f i) ++ N) := ((hb.alloc ob).drewN 1).sub (fun j hj => by
    rcases List.mem_append.1 hj with hj | hj
    · exact List.mem_cons_of_mem _ (List.mem_cons_of_mem _ (hlk.2 j hj).1)
    · exact List.mem_cons_of_mem _ (List.mem_cons_of_mem _ hj))
  have hb5 := hba.appended (fun j hj => (row_lt hlk.1 j hj).1) hg hlo (fun k hk => (hown.lt k hk).2)
  have hma : MapIs Try.prog 3 ((w4.alloc ob).drew) mb n (lieG L f) := hm4.block ((MapKept.heap_alloc w4 ob).2 _ hm4.lt)
  have hm5 := hma.grown hlk.1 hg
  refine ⟨dr, n + 1, vset f i v', blockOf v' ++ N, h0, by omega, by omega, by simp; omega, List.mem_append.2 (.inr hmb), hB, by simp, hb5.mapTurned (List.mem_append.2 (.inr hmb)) hB ht, hm.congr (fun l => lieG_snoc L f i t v' l), hr5.turned hm5 ht⟩

theorem lying_no {B : Nat} {w0 w4 : World} {p each room mb lb k : Nat} {L : Things} {dr dr' : Int} {n : Nat} {f : Int → Value} {N : List Nat}
    (h0 : 0 ≤ dr) (h1 : dr ≤ (k : Int)) (h1' : dr' = dr ∨ dr' = dr + 1) (h2 : n ≤ k) (h3 : L.length ≤ k) (hmb : mb ∈ N) (hB : B ≤ mb)
    (hb : BufAt B w0 w4 p each room L dr' (lb :: N)) (hm4 : MapIs Try.prog 3 w4 mb n (lieG L f)) (hr : RowsOf B w4 N L f) : Lying B w0 p each room mb (k + 1) [] L w4 :=
  ⟨dr', n, f, N, by omega, by omega, by omega, by omega, hmb, hB, by simp, hb.sub (fun j hj => List.mem_cons_of_mem _ hj), hm4, hr⟩

theorem RowsOf.drewN {B : Nat} {w : World} {N : List Nat} {L : Things} {f : Int → Value} (h : RowsOf B w N L f) (q : Nat) : RowsOf B (w.drewN q) N L f := h.keep (fun _ _ _ _ => rfl)
theorem MapIs.drewN {P : Program} {k : TypeId} {w : World} {b n : Nat} {g : Lit → Option Value} (h : MapIs P k w b n g) (q : Nat) : MapIs P k (w.drewN q) b n g := h.block rfl
theorem lying_take {B : Nat} {w0 w4 w6 : World} {p each room mb lb k q : Nat} {L : Things} {dr : Int} {n : Nat} {f : Int → Value} {N : List Nat} {i : Int} {v4 : Value}
    (h0 : 0 ≤ dr) (h1 : dr ≤ (k : Int)) (h2 : n ≤ k) (h3 : L.length ≤ k) (hmb : mb ∈ N) (hB : B ≤ mb)
    (hb : BufAt B w0 w4 p each room (takeL L i) dr (blockOf v4 ++ lb :: N)) (hm4 : MapIs Try.prog 3 w4 mb n (lieG L f)) (hr : RowsOf B w4 N L f)
    (hm : MapIs Try.prog 3 w6 mb n (upd (lieG L f) (.int .i64 i) none)) (ht : (w4.drewN q).mapTurned w6 mb) : Lying B w0 p each room mb (k + 1) [] (takeL L i) w6 := by
  have hN : ∀ j ∈ N, j ∈ blockOf v4 ++ lb :: N := fun j hj => List.mem_append.2 (.inr (List.mem_cons_of_mem _ hj))
  have hl := len_takeL L i
  refine ⟨dr, n, f, N, h0, by omega, by omega, by omega, hmb, hB, by simp, ((hb.sub hN).drewN q).mapTurned hmb hB ht, hm.congr (fun l => lieG_take L f i l), ?_⟩
  exact ((hr.drewN q).filt (fun j => !(j == i))).turned (hm4.drewN q) ht

theorem MapRange.isIter {P : Program} {k : TypeId} {w : World} {b r n : Nat} {g : Lit → Option Value} {lt : Int → Bool} {cnt : Nat} (h : MapRange P k w b r n g lt cnt) : ∃ x1 x2 x3 x4, w.heap[r]? = some (.mapIter x1 x2 x3 x4) := by
  obtain ⟨D, left, ⟨es, clock, since, seen, c0, hb, F, hs, hD, hr, rest⟩, hg, hl⟩ := h
  exact ⟨_, _, _, _, hr⟩
theorem row_ne_iter {w : World} {base : Nat} {e : TypeId} {size : Nat} {v : Value} {n : Nat} {xs : List Value} (h : w.ownsRow base e size v n xs) {b : Nat} {x1 x2 x3 x4} (hm : w.heap[b]? = some (.mapIter x1 x2 x3 x4)) : ∀ k ∈ blockOf v, k ≠ b := by
  rcases h.2 with ⟨rfl, _⟩ | ⟨g, cap, cur, rfl, _, hg, _⟩
  · simp [blockOf, Value.ownBlock]
  · intro k hk e
    simp [blockOf, Value.ownBlock] at hk
    subst hk; subst e; rw [hg] at hm; cases hm
theorem RowsOf.iter {P : Program} {ky : TypeId} {B : Nat} {w w1 : World} {N : List Nat} {L : Things} {f : Int → Value} {b r n : Nat} {g : Lit → Option Value} {lt : Int → Bool} {cnt : Nat}
    (h : RowsOf B w N L f) (hr : MapRange P ky w b r n g lt cnt) (hg : w.grownBy w1 (some r)) : RowsOf B w1 N L f := by
  obtain ⟨_, _, _, _, hi⟩ := hr.isIter
  exact h.keep (fun i hii k hk => hg.block k (row_lt (h i hii).1 k hk).2 (fun e => by injection e with e; exact row_ne_iter (h i hii).1 hi k hk e))
theorem cells_iter {P : Program} {ky : TypeId} {w w1 : World} {lb : Nat} {x : Array Value} {ty : TypeId} {q : Nat × Nat} {b r n : Nat} {g : Lit → Option Value} {lt : Int → Bool} {cnt : Nat}
    (h : w.heap[lb]? = some (.cells x ty q)) (hr : MapRange P ky w b r n g lt cnt) (hg : w.grownBy w1 (some r)) : w1.heap[lb]? = some (.cells x ty q) := by
  obtain ⟨_, _, _, _, hi⟩ := hr.isIter
  exact (hg.block lb (Array.getElem?_eq_some_iff.1 h).1 (fun e => by injection e with e; subst e; rw [h] at hi; cases hi)).trans h
theorem cells_turned {P : Program} {ky : TypeId} {w w1 : World} {lb : Nat} {x : Array Value} {ty : TypeId} {q : Nat × Nat} {b n : Nat} {g : Lit → Option Value}
    (h : w.heap[lb]? = some (.cells x ty q)) (hm : MapIs P ky w b n g) (ht : w.mapTurned w1 b) : w1.heap[lb]? = some (.cells x ty q) := by
  obtain ⟨_, _, hi⟩ := hm.isObj
  exact (mapTurned_heap_ne ht (fun e => by subst e; rw [h] at hi; cases hi)).trans h

/-- Drop: the law's own range under way -/
def Dropping (B : Nat) (w0 : World) (p each room lb mb r n : Nat) (dr : Int) (L : Things) (f : Int → Value) (N : List Nat) (x : Array Value) (X : Int) (nv : Value) (wr : World) : Prop :=
  ∃ lt cnt, ∃ nn : Nat, nn = (L.filter (fun q => metD X lt q.1)).length ∧ nv = .int .i64 nn ∧ MapRange Try.prog 3 wr mb r n (lieG (L.filter (fun q => keepD X lt q.1)) f) lt cnt ∧
    RowsOf B wr N (L.filter (fun q => keepD X lt q.1)) f ∧ BufAt B w0 wr p each room L dr (r :: lb :: N) ∧ wr.heap[lb]? = some (.cells x 32 (0, 0))

theorem lieG_isSome (L : Things) (f : Int → Value) (i : Int) : (lieG L f (.int .i64 i)).isSome = hasI L i := by
  rw [lieG_i]; cases hasI L i <;> rfl

theorem dropping_start {B : Nat} {w0 w3 w4 : World} {p each room lb mb n : Nat} {dr : Int} {L : Things} {f : Int → Value} {N : List Nat} {x : Array Value} {X : Int} {cnt : Nat}
    (hb : BufAt B w0 w3 p each room L dr (lb :: N)) (hr : RowsOf B w3 N L f) (hl : w3.heap[lb]? = some (.cells x 32 (0, 0)))
    (hrg : MapRange Try.prog 3 w4 mb w3.heap.size n (lieG L f) (fun i => (lieG L f (.int .i64 i)).isSome) cnt) (hg : w3.grownBy w4 none) (hsz : w4.heap.size = w3.heap.size + 1) :
    Dropping B w0 p each room lb mb w3.heap.size n dr L f N x X (.int .i64 (0 : Int)) w4 := by
  have hall : ∀ i, hasI L i = true → hasI L i = true := fun _ h => h
  have e0 := metD_none L X (hasI L) hall
  have e1 := keepD_all L X (hasI L) hall
  have hlt := (Array.getElem?_eq_some_iff.1 hl).1
  have hrows : RowsOf B w4 N L f := hr.keep (fun i hi k hk => hg.block k (row_lt (hr i hi).1 k hk).2 (by simp))
  refine ⟨hasI L, cnt, 0, e0.symm, rfl, ?_, by rw [e1]; exact hrows, ?_, (hg.block lb hlt (by simp)).trans hl⟩
  · rw [e1]; exact hrg.congr (fun _ => rfl) (fun i => (lieG_isSome L f i).symm)
  · exact hb.fresh ((Below.refl _ _).grown hg hb.size (by simp)) (fun j hj _ => hg.block j hj (by simp)) (Nat.le_refl _) (by omega)

section
variable {B : Nat} {w0 wr w1 w2 : World} {p each room lb mb r n : Nat} {dr : Int} {L : Things} {f : Int → Value} {N : List Nat} {x : Array Value} {X : Int} {lt : Int → Bool} {cnt cnt1 cnt2 : Nat} {i : Int}
theorem dropping_skip {nn : Nat} (hnn : nn = (L.filter (fun q => metD X lt q.1)).length) (hi : ¬ i < X) (hrg : MapRange Try.prog 3 wr mb r n (lieG (L.filter (fun q => keepD X lt q.1)) f) lt cnt) (hr : RowsOf B wr N (L.filter (fun q => keepD X lt q.1)) f)
    (hb : BufAt B w0 wr p each room L dr (r :: lb :: N)) (hl : wr.heap[lb]? = some (.cells x 32 (0, 0))) (hrB : B ≤ r)
    (hrg1 : MapRange Try.prog 3 w1 mb r n (lieG (L.filter (fun q => keepD X lt q.1)) f) (fun j => lt j && !(j == i)) cnt1) (hg : wr.grownBy w1 (some r)) :
    Dropping B w0 p each room lb mb r n dr L f N x X (.int .i64 nn) w1 := by
  refine ⟨_, cnt1, nn, by rw [metD_skip L X lt hi]; exact hnn, rfl, by rw [keepD_skip L X lt hi]; exact hrg1, by rw [keepD_skip L X lt hi]; exact hr.iter hrg hg, ?_, cells_iter hl hrg hg⟩
  exact hb.grown hg (fun k e => by injection e with e; subst e; exact ⟨by simp, hrB⟩)
theorem dropping_take {nn tl : Nat} {nv : Value} (hnn : nn = (L.filter (fun q => metD X lt q.1)).length) (htl : tl = (texts L i).length) (hnv : nv = .int .i64 ((nn + tl : Nat) : Int)) (hi : i < X) (hlt : lt i = true) (hrg : MapRange Try.prog 3 wr mb r n (lieG (L.filter (fun q => keepD X lt q.1)) f) lt cnt) (hr : RowsOf B wr N (L.filter (fun q => keepD X lt q.1)) f)
    (hb : BufAt B w0 wr p each room L dr (r :: lb :: N)) (hl : wr.heap[lb]? = some (.cells x 32 (0, 0))) (hrB : B ≤ r) (hmb : mb ∈ N) (hmB : B ≤ mb)
    (hm1 : MapIs Try.prog 3 w1 mb n (lieG (L.filter (fun q => keepD X lt q.1)) f))
    (hrg2 : MapRange Try.prog 3 w2 mb r n (upd (lieG (L.filter (fun q => keepD X lt q.1)) f) (.int .i64 i) none) (fun j => (lt j && !(j == i)) && !(j == i)) cnt2) (hg : wr.grownBy w1 (some r)) (ht : w1.mapTurned w2 mb) :
    Dropping B w0 p each room lb mb r n dr L f N x X nv w2 := by
  refine ⟨fun j => lt j && !(j == i), cnt2, nn + tl, by rw [metD_add L X lt hi hlt, hnn, htl], hnv, ?_, ?_, ?_, ?_⟩
  · rw [keepD_take L X lt hi]
    exact hrg2.congr (fun l => lieG_take _ f i l) (fun j => by cases lt j <;> cases (j == i) <;> rfl)
  · rw [keepD_take L X lt hi]
    exact ((hr.iter hrg hg).filt (fun j => !(j == i))).turned hm1 ht
  · exact (hb.grown hg (fun k e => by injection e with e; subst e; exact ⟨by simp, hrB⟩)).mapTurned (by simp [hmb]) hmB ht
  · exact cells_turned (cells_iter hl hrg hg) hm1 ht
/-- what the range's element is -/
theorem dropping_row {c : Value} (hr : RowsOf B wr N (L.filter (fun q => keepD X lt q.1)) f) (hlt : lt i = true) (hc : lieG (L.filter (fun q => keepD X lt q.1)) f (.int .i64 i) = some c) :
    wr.ownsRow B 9 1 c (texts L i).length ((texts L i).map Value.string) := by
  rw [lieG_i] at hc
  split at hc
  · rename_i hh
    injection hc with hc
    have := (hr i hh).1
    rw [texts_keep L (keepD X lt) (by unfold keepD; rw [hlt]; simp), hc] at this
    exact this
  · cases hc
end
theorem lying_drop {B : Nat} {w0 w4 w5 : World} {p each room mb lb r k : Nat} {L : Things} {dr : Int} {n : Nat} {f : Int → Value} {N : List Nat} {X : Int} {lt : Int → Bool} {cnt : Nat}
    (h0 : 0 ≤ dr) (h1 : dr ≤ (k : Int)) (h2 : n ≤ k) (h3 : L.length ≤ k) (hmb : mb ∈ N) (hB : B ≤ mb) (hlt : ∀ i, lt i = false)
    (hrg : MapRange Try.prog 3 w4 mb r n (lieG (L.filter (fun q => keepD X lt q.1)) f) lt cnt) (hr : RowsOf B w4 N (L.filter (fun q => keepD X lt q.1)) f)
    (hb : BufAt B w0 w5 p each room (dropL L X) dr (r :: lb :: N)) (hs : Same (r :: lb :: N) w4 w5) : Lying B w0 p each room mb (k + 1) [] (dropL L X) w5 := by
  rw [keepD_end L X lt hlt] at hrg hr
  have hN : ∀ j ∈ N, j ∈ r :: lb :: N := fun j hj => by simp [hj]
  have hl : (dropL L X).length ≤ L.length := List.length_filter_le _ _
  exact ⟨dr, n, f, N, h0, by omega, by omega, by omega, hmb, hB, by simp, hb.sub hN, hrg.map.block (hs.2 mb (hN _ hmb)), hr.same (hs.sub hN)⟩

/-- the last range -/
def Lasting (B : Nat) (w0 : World) (p each room mb r n : Nat) (dr : Int) (L : Things) (f : Int → Value) (N : List Nat) (wr : World) : Prop :=
  ∃ lt cnt, MapRange Try.prog 3 wr mb r n (lieG L f) lt cnt ∧ RowsOf B wr N L f ∧ BufAt B w0 wr p each room (L.filter (fun q => lt q.1)) dr (r :: N)
theorem lasting_start {B : Nat} {w0 w3 w4 : World} {p each room mb n : Nat} {dr : Int} {L : Things} {f : Int → Value} {N : List Nat} {cnt : Nat}
    (hb : BufAt B w0 w3 p each room L dr N) (hr : RowsOf B w3 N L f)
    (hrg : MapRange Try.prog 3 w4 mb w3.heap.size n (lieG L f) (fun i => (lieG L f (.int .i64 i)).isSome) cnt) (hg : w3.grownBy w4 none) (hsz : w4.heap.size = w3.heap.size + 1) :
    Lasting B w0 p each room mb w3.heap.size n dr L f N w4 := by
  refine ⟨hasI L, cnt, hrg.congr (fun _ => rfl) (fun i => (lieG_isSome L f i).symm), hr.keep (fun i hi k hk => hg.block k (row_lt (hr i hi).1 k hk).2 (by simp)), ?_⟩
  rw [keep_all L (hasI L) (fun _ h => h)]
  exact hb.fresh ((Below.refl _ _).grown hg hb.size (by simp)) (fun j hj _ => hg.block j hj (by simp)) (Nat.le_refl _) (by omega)
theorem lasting_step {B : Nat} {w0 w1 w4 : World} {p each room mb r n q : Nat} {dr : Int} {L : Things} {f : Int → Value} {N : List Nat} {lt : Int → Bool} {cnt1 : Nat} {i : Int} {v : Value}
    (hmb : mb ∈ N) (hrg1 : MapRange Try.prog 3 w1 mb r n (lieG L f) (fun j => lt j && !(j == i)) cnt1) (hr1 : RowsOf B w1 N L f)
    (hb4 : BufAt B w0 w4 p each room (takeL (L.filter (fun q => lt q.1)) i) dr (blockOf v ++ r :: N)) (hs : Same (r :: N) w1 w4) : Lasting B w0 p each room mb r n dr L f N (w4.drewN q) := by
  refine ⟨_, cnt1, hrg1.block (hs.2 mb (by simp [hmb])) (hs.2 r (by simp)), (hr1.same (hs.sub (by simp +contextual))).drewN q, ?_⟩
  rw [takeL_keep L lt i] at hb4
  exact (hb4.sub (fun j hj => List.mem_append.2 (.inr hj))).drewN q
end Go.Proofs.Ytgmgofcclddkiaa
