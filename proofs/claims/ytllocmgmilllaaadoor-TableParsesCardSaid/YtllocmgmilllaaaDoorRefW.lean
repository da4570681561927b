/- What stands in memory in the reference's Parse, and its three appends of entries. -/
import Derived.Test.YtllocmgmilllaaaDoorParse
import Derived.Test.YtllocmgmilllaaaDoorRefP
import Derived.Test.YtllocmgmilllaaaDoorRefE
import Derived.Test.YtllocmgmilllaaaDoorRef
import Derived.Laws.OwnMore
namespace Go.Proofs.YtllocmgmilllaaaDoor
open Go.RowKit

/-- The result's cell, the table, the lines. -/
structure RW (B T : Nat) (v : Value) (ls : List Line) (w : World) (L : List Ent) (W : World) : Prop where
  res : W.heap[B]? = some (.cells #[.int .i64 0, .int .i64 0] 27 (0, 0))
  tab : ∃ tv, W.heap[T]? = some (.cells #[tv] 36 (0, 0)) ∧ W.ownsRow (B + 1) 40 2 tv L.length (cellsOf L)
  lin : LinesAt 54 (B + 1) v ls W
  bel : Below B w W
  lt : B < T

theorem RW.size {B T : Nat} {v : Value} {ls : List Line} {w : World} {L : List Ent} {W : World} (h : RW B T v ls w L W) : T < W.heap.size := by
  obtain ⟨tv, t1, _⟩ := h.tab
  exact (Array.getElem?_eq_some_iff.1 t1).1

theorem RW.below {B T : Nat} {v : Value} {ls : List Line} {w : World} {L : List Ent} {W W' : World} (h : RW B T v ls w L W) (hb : Below W.heap.size W W') : RW B T v ls w L W' := by
  have hz := h.size
  have hlt := h.lt
  obtain ⟨tv, t1, t2⟩ := h.tab
  exact ⟨(hb.block _ (Array.getElem?_eq_some_iff.1 h.res).1).trans h.res,
    ⟨tv, (hb.block _ (Array.getElem?_eq_some_iff.1 t1).1).trans t1, own_mv t2 (fun k hk => by obtain ⟨_, hc⟩ := own_ty t2 k hk; exact hb.block k (Array.getElem?_eq_some_iff.1 hc).1)⟩,
    h.lin.below hb, h.bel.trans (hb.mono (by omega)), h.lt⟩

theorem RW.drew {B T : Nat} {v : Value} {ls : List Line} {w : World} {L : List Ent} {W : World} (h : RW B T v ls w L W) : RW B T v ls w L W.drew :=
  ⟨h.res, h.tab, h.lin, h.bel.drew, h.lt⟩

theorem RW.tabAt {B T : Nat} {v : Value} {ls : List Line} {w : World} {L : List Ent} {W : World} (h : RW B T v ls w L W) : TabAt 36 40 T L W := by
  obtain ⟨tv, t1, t2⟩ := h.tab
  exact ⟨tv, t1, own_low t2 (Nat.zero_le _)⟩

theorem RW.tabR {B T : Nat} {v : Value} {ls : List Line} {w : World} {L : List Ent} {W : World} (h : RW B T v ls w L W) (u1 u2 : Value) : TabAt 36 40 T L ((W.setCell ⟨B, 0, none⟩ u1).setCell ⟨B, 1, none⟩ u2) := by
  obtain ⟨tv, t1, t2⟩ := h.tab
  have hlt := h.lt
  have other : ∀ k, k ≠ B → ((W.setCell ⟨B, 0, none⟩ u1).setCell ⟨B, 1, none⟩ u2).heap[k]? = W.heap[k]? := fun k hk =>
    (heap_setCell_other _ _ k _ hk).trans (heap_setCell_other W _ k _ hk)
  exact ⟨tv, (other _ (by omega)).trans t1, own_low (own_mv t2 (fun k hk => other k (by have := (t2.lt k hk).1; omega))) (Nat.zero_le _)⟩

/-- The store of the new slice. -/
theorem RW.put {B T : Nat} {v : Value} {ls : List Line} {w : World} {L L' : List Ent} {W : World} {v' : Value} (h : RW B T v ls w L W) (ho : W.ownsRow (B + 1) 40 2 v' L'.length (cellsOf L')) :
    RW B T v ls w L' (W.setCell ⟨T, 0, none⟩ v') := by
  have hlt := h.lt
  obtain ⟨tv, t1, _⟩ := h.tab
  have sty : ∀ (k : Nat) (cur : Array Value) (t : TypeId), W.heap[k]? = some (.cells cur t (0, 0)) → t ≠ 36 → k ≠ T := fun k cur t hc hne e' => by
    subst e'
    rw [t1] at hc
    injection hc with hc
    injection hc with _ hc _
    exact hne hc.symm
  refine ⟨?_, ⟨v', ?_, ?_⟩, ?_, ?_, hlt⟩
  · rw [heap_setCell_other W _ _ _ (show B ≠ T by omega)]
    exact h.res
  · rw [heap_setCell_at W T 0 _ 36 (0, 0) v' t1]
    rfl
  · exact own_mv ho (fun k hk => by
      obtain ⟨cur, hc⟩ := own_ty ho k hk
      exact heap_setCell_other W _ k _ (sty k cur 40 hc (by decide)))
  · exact h.lin.move (fun k cur t hc hte => heap_setCell_other W _ k _ (sty k cur t hc (by rcases hte with rfl | rfl <;> decide)))
  · exact h.bel.setCell (Nat.le_of_lt hlt) _

theorem info40 : (Tryd.prog.info? 40).map (fun i => (i.zero, i.size, i.bytes)) = some (some (.agg #[(.string ⟨#[]⟩), (.string ⟨#[]⟩)]), 2, 32) := by kernel_rfl

/-- A slice of entries that is read: none, or m entries whose cells are known. -/
def Src (u : Value) (m : Nat) (news : List Value) (w : World) : Prop :=
  (u = .slice none 0 0 ∧ m = 0 ∧ news = []) ∨ ∃ ad c, u = .slice (some ad) m c ∧ news.length = m * 2 ∧ ∀ j x, news[j]? = some x → w.cell? (ad.add j) = some x

theorem src_pre {w W : World} {base g cap : Nat} {L : List Ent} (hown : w.ownsRow base 40 2 (.slice (some ⟨g, 0, none⟩) L.length cap) L.length (cellsOf L)) (hb : Below w.heap.size w W) (hg : g < w.heap.size) (k : Nat) (hk : k ≤ L.length) :
    ∀ j x, (cellsOf (L.take k))[j]? = some x → W.cell? ((⟨g, 0, none⟩ : Addr).add j) = some x := by
  intro j x h
  rw [cellsOf_take L k hk, List.getElem?_take] at h
  by_cases hj : j < k * 2
  · rw [if_pos hj] at h
    rw [add_lit, Nat.zero_add]
    exact cell_kept hb hg ((hown.cellAt j (by omega)).trans h)
  · rw [if_neg hj] at h
    exact absurd h (by simp)

theorem src_post {w W : World} {base g cap : Nat} {L : List Ent} (hown : w.ownsRow base 40 2 (.slice (some ⟨g, 0, none⟩) L.length cap) L.length (cellsOf L)) (hb : Below w.heap.size w W) (hg : g < w.heap.size) (k : Nat) (hk : k ≤ L.length) :
    ∀ j x, (cellsOf (L.drop k))[j]? = some x → W.cell? ((⟨g, k * 2, none⟩ : Addr).add j) = some x := by
  intro j x h
  have hj : j < (cellsOf (L.drop k)).length := (List.getElem?_eq_some_iff.1 h).1
  rw [cellsOf_len, List.length_drop] at hj
  rw [cellsOf_drop L k hk, List.getElem?_drop] at h
  rw [add_lit]
  exact cell_kept hb hg ((hown.cellAt (k * 2 + j) (by omega)).trans h)

theorem src_tail {w W : World} {base g cap : Nat} {L : List Ent} (hown : w.ownsRow base 40 2 (.slice (some ⟨g, 0, none⟩) L.length cap) L.length (cellsOf L)) (hb : Below w.heap.size w W) (hg : g < w.heap.size) (k : Nat) (hk : k ≤ L.length) (hc : L.length ≤ cap) :
    Src (.slice (if cap = k then some ⟨g, 0, none⟩ else some ⟨g, k * 2, none⟩) (L.length - k) (cap - k)) (L.length - k) (cellsOf (L.drop k)) W := by
  by_cases h0 : cap = k
  · rw [if_pos h0]
    refine .inr ⟨⟨g, 0, none⟩, cap - k, rfl, by rw [cellsOf_len, List.length_drop], ?_⟩
    intro j x h
    have hj : j < (cellsOf (L.drop k)).length := (List.getElem?_eq_some_iff.1 h).1
    rw [cellsOf_len, List.length_drop] at hj
    omega
  · rw [if_neg h0]
    exact .inr ⟨⟨g, k * 2, none⟩, cap - k, rfl, by rw [cellsOf_len, List.length_drop], src_post hown hb hg k hk⟩

/-- append of entries onto a row of the call's own. -/
theorem wpList_append40 {w : World} {ops : Array Oper} {rest : List Oper} {o : Oper} {a : Act} {Q : Exit → Act → World → Prop} (hgd : o.guard = none) (s x : Operand)
    (ho : o.op = .call { callee := .builtin .append, args := #[s, x], argTypes := #[34, 34] })
    (base : Nat) (v : Value) (n : Nat) (xs : List Value) (hs : a.eval s = v) (hown : w.ownsRow base 40 2 v n xs)
    (u : Value) (m : Nat) (news : List Value) (hx : a.eval x = u) (hsrc : Src u m news w) (h1 : ∀ u ∈ news, u.oneCell' = true) (hn : n ≤ 3000) (hm : m ≤ 3000) (hbase : base ≤ w.heap.size)
    (h : ∀ A' N c' w', N = n + m → w'.ownsRow base 40 2 (.slice A' N c') N (xs ++ news) → Below base w w' → wpList Tryd.prog ops Q rest (a.put o.dst (.slice A' N c')) w') :
    wpList Tryd.prog ops Q (o :: rest) a w := by
  obtain ⟨i, hi, hz, hzs, hzb⟩ := info_parts info40
  have fin : ∀ v' w', (Builtin.append_ #[34, 34] o.type #[v, u]).run Tryd.prog w = .ok v' w' → w'.ownsRow base 40 2 v' (n + m) (xs ++ news) → Below base w w' → wpList Tryd.prog ops Q (o :: rest) a w := fun v' w' hr hrow hbel => by
    obtain ⟨A', c', rfl⟩ := own_form hrow
    refine wpList_plain hgd fun K hK => ?_
    unfold Oper.wp execOp
    simp only [ho, resolve, invoke, builtin, Sem.run_bind, Sem.run_pure, Result.andThen_ok, List.map_toArray, List.map_cons, List.map_nil, hs, hx, hr]
    exact hK _ _ (h A' _ c' w' rfl hrow hbel)
  rcases hsrc with ⟨rfl, rfl, rfl⟩ | ⟨ad, c, rfl, hl, hc⟩
  · exact fin v w (run_append_owned_none w base 34 _ 40 i 2 Tryd.underlying34 hi v n xs hown) (by rw [List.append_nil]; exact hown) (Below.refl _ _)
  · obtain ⟨v', w', hr, hrow, hg, _, _⟩ := run_append_own_at (P := Tryd.prog) w base 34 o.type 40 i _ 2 32 Tryd.underlying34 hi hz hzs hzb rfl (by decide) v n xs hown ad m c news hl hc h1 (by unfold maxLen; omega) (by omega) hbase
    exact fin v' w' hr hrow ((Below.refl _ _).grown hg hbase (fun k hk => (hown.lt k hk).1))

end Go.Proofs.YtllocmgmilllaaaDoor
