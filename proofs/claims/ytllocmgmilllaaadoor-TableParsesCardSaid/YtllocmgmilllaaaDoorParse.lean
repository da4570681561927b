/- The program's Parse: any text is read as the table that the plain function 'parse' gives, or refused with its fault. -/
import Derived.Test.YtllocmgmilllaaaDoorCut
import Derived.Test.YtllocmgmilllaaaDoorIns
import Derived.Test.YtllocmgmilllaaaDoorTabB
import Derived.ScopeJumps
import Derived.Deep.RegionHeld3
namespace Go.Proofs.YtllocmgmilllaaaDoor
open Go.RowKit

theorem wp_scope_forward {P : Program} {a : Act} {w : World} {Q : Exit → Act → World → Prop} {c rest : Code} (l : Nat) (hf : findLabel c l = some rest)
    (first : c.wp P (Exit.jump l (fun a' w' => rest.wp P (Exit.noGoto Q) a' w') Q) a w) : (Code.scope c).wp P Q a w :=
  wp_scope_jumps l _ (fun _ _ => 0) hf first (fun a' w' hJ => Code.wp_mono (fun e a w h => by
    cases e with
    | goto l => exact h.elim
    | _ => exact h) hJ)

theorem jump_ret (l : Nat) (J : Act → World → Prop) (Q : Exit → Act → World → Prop) (a : Act) (w : World) : Exit.jump l J Q .ret a w = Q .ret a w := rfl

/-- What Parse hands back, and what it leaves. -/
def ParseEnd (tt te : TypeId) (r : Option (List Ent) × Int × Nat) (B : Nat) (e : Ending) (w' : World) : Prop :=
  ∃ p : Option Addr, e = .returned (.tuple #[.pointer p, .agg #[.int .i64 r.2.1, .int .i64 (r.2.2 : Int)]]) ∧
    ((r.1 = none ∧ p = none) ∨ ∃ L g, r.1 = some L ∧ p = some ⟨g, 0, none⟩ ∧ B ≤ g ∧ TabAt tt te g L w' ∧ L.length ≤ 2000)

theorem pair_cells {W : World} {b : Nat} {x y : Value} {T : TypeId} (h : W.heap[b]? = some (.cells #[x, y] T (0, 0))) : W.cell? ⟨b, 0, none⟩ = some x ∧ W.cell? ⟨b, 1, none⟩ = some y ∧ W.frozen? ⟨b, 0, none⟩ = false ∧ W.frozen? ⟨b, 1, none⟩ = false :=
  ⟨by rw [cell_of_row W b 0 _ T (0, 0) h]; rfl, by rw [cell_of_row W b 1 _ T (0, 0) h]; rfl, frozen_of_row W b 0 _ T h, frozen_of_row W b 1 _ T h⟩

theorem at3 (w : World) (o0 o1 o2 : Obj) : (((w.alloc o0).alloc o1).alloc o2).heap[w.heap.size]? = some o0 ∧ (((w.alloc o0).alloc o1).alloc o2).heap[w.heap.size + 1]? = some o1 ∧ (((w.alloc o0).alloc o1).alloc o2).heap[w.heap.size + 2]? = some o2 := by
  have e : ∀ k : Nat, (((w.alloc o0).alloc o1).alloc o2).heap[k]? = (((w.heap.push o0).push o1).push o2)[k]? := fun _ => rfl
  refine ⟨?_, ?_, ?_⟩
  · rw [e, Array.getElem?_push, if_neg (by rw [Array.size_push, Array.size_push]; omega), Array.getElem?_push, if_neg (by rw [Array.size_push]; omega), Array.getElem?_push, if_pos rfl]
  · rw [e, Array.getElem?_push, if_neg (by rw [Array.size_push, Array.size_push]; omega), Array.getElem?_push, if_pos (by rw [Array.size_push])]
  · rw [e, Array.getElem?_push, if_pos (by rw [Array.size_push, Array.size_push])]

/-- What stands in memory at the head of a round: the result's cell, the fault, the table, the lines. -/
structure PW (B : Nat) (c x : Int) (v : Value) (ls : List Line) (w : World) (L : List Ent) (W : World) : Prop where
  res : W.heap[B]? = some (.cells #[.int .i64 0, .int .i64 0] 27 (0, 0))
  flt : W.heap[B + 1]? = some (.cells #[.int .i64 c, .int .i64 x] 27 (0, 0))
  tab : ∃ tv, W.heap[B + 2]? = some (.cells #[tv] 61 (0, 0)) ∧ W.ownsRow (B + 3) 69 2 tv L.length (cellsOf L)
  lin : LinesAt 65 (B + 3) v ls W
  bel : Below B w W

theorem PW.below {B : Nat} {c x : Int} {v : Value} {ls : List Line} {w : World} {L : List Ent} {W W' : World} (h : PW B c x v ls w L W) (hb : Below W.heap.size W W') (hB : B ≤ W.heap.size) : PW B c x v ls w L W' := by
  obtain ⟨tv, t1, t2⟩ := h.tab
  exact ⟨(hb.block _ (Array.getElem?_eq_some_iff.1 h.res).1).trans h.res, (hb.block _ (Array.getElem?_eq_some_iff.1 h.flt).1).trans h.flt,
    ⟨tv, (hb.block _ (Array.getElem?_eq_some_iff.1 t1).1).trans t1, own_mv t2 (fun k hk => by obtain ⟨_, hc⟩ := own_ty t2 k hk; exact hb.block k (Array.getElem?_eq_some_iff.1 hc).1)⟩,
    h.lin.below hb, h.bel.trans (hb.mono hB)⟩

theorem PW.tabAt {B : Nat} {c x : Int} {v : Value} {ls : List Line} {w : World} {L : List Ent} {W : World} (h : PW B c x v ls w L W) : TabAt 61 69 (B + 2) L W := by
  obtain ⟨tv, t1, t2⟩ := h.tab
  exact ⟨tv, t1, own_low t2 (Nat.zero_le _)⟩

theorem PW.setF {B : Nat} {c x c' x' : Int} {v : Value} {ls : List Line} {w : World} {L : List Ent} {W : World} (h : PW B c x v ls w L W) (i : Nat) (u : Value) (hu : (#[Value.int .i64 c, Value.int .i64 x] : Array Value).setIfInBounds i u = #[.int .i64 c', .int .i64 x']) : PW B c' x' v ls w L (W.setCell ⟨B + 1, i, none⟩ u) := by
  obtain ⟨tv, t1, t2⟩ := h.tab
  have ty : ∀ (k : Nat) (cur : Array Value) (t : TypeId), W.heap[k]? = some (.cells cur t (0, 0)) → t ≠ 27 → k ≠ B + 1 := fun k cur t hc ht e' => by
    subst e'
    rw [h.flt] at hc
    injection hc with hc
    injection hc with _ hc _
    exact ht hc.symm
  refine ⟨?_, ?_, ⟨tv, ?_, ?_⟩, ?_, h.bel.setCell (Nat.le_succ _) _⟩
  · rw [heap_setCell_other W _ _ _ (show B ≠ B + 1 by omega)]
    exact h.res
  · rw [heap_setCell_at W (B + 1) i _ 27 (0, 0) u h.flt, hu]
  · rw [heap_setCell_other W _ _ _ (show B + 2 ≠ B + 1 by omega)]
    exact t1
  · exact own_mv t2 (fun k hk => by
      obtain ⟨cur, hc⟩ := own_ty t2 k hk
      exact heap_setCell_other W _ k _ (ty k cur 69 hc (by decide)))
  · exact h.lin.move (fun k cur t hc ht => heap_setCell_other W _ k _ (ty k cur t hc (by rcases ht with rfl | rfl <;> decide)))

/-- A line read. -/
theorem LinesAt.get {te : TypeId} {B : Nat} {A : Option Addr} {n cap : Nat} {out : List Line} {w : World} (h : LinesAt te B (.slice A n cap) out w) (j : Nat) (hj : j < out.length) :
    ∃ g A2 c2, A = some ⟨g, 0, none⟩ ∧ n = out.length ∧ n ≤ cap ∧ w.cell? ⟨g, j * 3, none⟩ = some (.int .i64 ((out[j]).1 : Int)) ∧ w.cell? ⟨g, j * 3 + 1, none⟩ = some (.string (out[j]).2.1) ∧ w.cell? ⟨g, j * 3 + 2, none⟩ = some (.slice A2 (out[j]).2.2.length c2) ∧
      w.ownsRow B 9 1 (.slice A2 (out[j]).2.2.length c2) (out[j]).2.2.length (strsV (out[j]).2.2) := by
  obtain ⟨ps, hps, h2, h3, _⟩ := h
  have hl : ps.length = out.length := by rw [← hps, List.length_map]
  obtain ⟨g, cap', hv, hc, _, _⟩ := own_some h2 (by omega)
  simp only [Value.slice.injEq] at hv
  obtain ⟨rfl, rfl, rfl⟩ := hv
  have hjp : j < ps.length := by omega
  have ej : out[j] = (ps[j]).1 := by
    have : out[j]? = some (ps[j]).1 := by rw [← hps, List.getElem?_map, List.getElem?_eq_getElem hjp]; rfl
    rw [List.getElem?_eq_getElem hj] at this
    exact Option.some.inj this
  have hin := h3 ps[j] (List.getElem_mem hjp)
  obtain ⟨A2, c2, hf⟩ := own_form hin
  have row : ∀ i, i < 3 → (rowC ps)[j * 3 + i]? = (cell3 ps[j])[i]? := by
    intro i hi
    have e : ps = ps.take j ++ ps[j] :: ps.drop (j + 1) := by rw [List.getElem_cons_drop, List.take_append_drop]
    have e2 : rowC ps = rowC (ps.take j) ++ (cell3 ps[j] ++ rowC (ps.drop (j + 1))) := by
      conv => lhs; rw [e]
      unfold rowC
      rw [List.flatMap_append, List.flatMap_cons]
    have e3 : (rowC (ps.take j)).length = j * 3 := by rw [rowC_len, List.length_take]; omega
    rw [e2, List.getElem?_append_right (by omega), e3, show j * 3 + i - j * 3 = i from by omega, List.getElem?_append_left (by exact hi)]
  have c0 := h2.cellAt (j * 3) (by omega)
  have c1 := h2.cellAt (j * 3 + 1) (by omega)
  have c2' := h2.cellAt (j * 3 + 2) (by omega)
  have r0 := row 0 (by omega)
  rw [Nat.add_zero] at r0
  rw [r0] at c0
  rw [row 1 (by omega)] at c1
  rw [row 2 (by omega)] at c2'
  rw [ej]
  refine ⟨g, A2, c2, rfl, hl, hc, c0, c1, ?_, ?_⟩
  · rw [← hf]; exact c2'
  · rw [← hf]; exact hin

theorem join_len (sep : UInt8) : ∀ ps : List ByteArray, (Lib.join (ps.map (·.data.toList)) [sep]).length ≤ sumLen ps
  | [] => Nat.zero_le _
  | [x] => by
    show (Lib.join [x.data.toList] [sep]).length ≤ _
    have : Lib.join [x.data.toList] [sep] = x.data.toList := by simp [Lib.join, List.intercalate]
    rw [this, size_list]
    show x.size ≤ (x.size + 1) + 0
    omega
  | x :: y :: r => by
    have ih := join_len sep (y :: r)
    have e : Lib.join ((x :: y :: r).map (·.data.toList)) [sep] = x.data.toList ++ ([sep] ++ Lib.join ((y :: r).map (·.data.toList)) [sep]) := by
      simp [Lib.join, List.intercalate]
    rw [e, List.length_append, List.length_append, List.length_singleton, size_list]
    have e2 : sumLen (x :: y :: r) = (x.size + 1) + sumLen (y :: r) := by unfold sumLen; rw [List.map_cons, List.sum_cons]
    omega

theorem join17 (A : Option Addr) (c : Nat) (ps : List ByteArray) (B : Nat) (w : World) (hown : w.ownsRow B 9 1 (.slice A ps.length c) ps.length (strsV ps)) (hs : sumLen ps ≤ 1000000) :
    Calls Tryd.prog 17 #[.slice A ps.length c, .string ⟨#[32]⟩] w fun e w' => e = .returned (.string (joinB ps)) ∧ Below w.heap.size w w' := by
  by_cases h0 : ps.length = 0
  · obtain rfl : ps = [] := List.length_eq_zero_iff.1 h0
    refine (Tryd.strings_Join_none A c ⟨#[32]⟩ w).mono ?_
    rintro e w' ⟨rfl, rfl⟩
    exact ⟨rfl, Below.refl _ _⟩
  · obtain ⟨g, cap, hv, hc, _, hg⟩ := own_some hown (by omega)
    simp only [Value.slice.injEq] at hv
    obtain ⟨rfl, _, rfl⟩ := hv
    have hl := len_sumLen ps
    have hj := join_len 32 ps
    exact Tryd.strings_Join g 0 c ps ⟨#[32]⟩ w (fun j x hx => by
      have hjl : j < ps.length := (List.getElem?_eq_some_iff.1 hx).1
      rw [Nat.zero_add, hown.cellAt j (by omega)]
      unfold strsV
      rw [List.getElem?_map, hx]
      rfl) hg (by omega) hc (Nat.le_trans hj (by omega))

/-- The table with one entry more, behind the store of its new slice. -/
theorem PW.ins {B : Nat} {c x : Int} {v : Value} {ls : List Line} {w : World} {L L' : List Ent} {W W1 : World} {tv v' : Value} (h : PW B c x v ls w L W) (ht : W.heap[B + 2]? = some (.cells #[tv] 61 (0, 0)))
    (hown : W.ownsRow (B + 3) 69 2 tv L.length (cellsOf L)) (hg : W.grownBy W1 tv.ownBlock) (ho : W1.ownsRow (B + 3) 69 2 v' L'.length (cellsOf L')) :
    PW B c x v ls w L' (W1.setCell ⟨B + 2, 0, none⟩ v') ∧ W1.cell? ⟨B + 2, 0, none⟩ = some tv ∧ W1.frozen? ⟨B + 2, 0, none⟩ = false := by
  have other : ∀ (k : Nat) (cur : Array Value) (t : TypeId), W.heap[k]? = some (.cells cur t (0, 0)) → t ≠ 69 → W1.heap[k]? = W.heap[k]? := fun k cur t hc hne =>
    hg.block k (Array.getElem?_eq_some_iff.1 hc).1 (fun e' => by
      obtain ⟨cur', hc'⟩ := own_ty hown k e'.symm
      rw [hc] at hc'
      injection hc' with hc'
      injection hc' with _ hc' _
      exact hne hc')
  have t1 : W1.heap[B + 2]? = some (.cells #[tv] 61 (0, 0)) := (other _ _ _ ht (by decide)).trans ht
  have sty : ∀ (k : Nat) (cur : Array Value) (t : TypeId), W1.heap[k]? = some (.cells cur t (0, 0)) → t ≠ 61 → k ≠ B + 2 := fun k cur t hc hne e' => by
    subst e'
    rw [t1] at hc
    injection hc with hc
    injection hc with _ hc _
    exact hne hc.symm
  have hlin : LinesAt 65 (B + 3) v ls W1 := h.lin.move (fun k cur t hc hte => other k cur t hc (by rcases hte with rfl | rfl <;> decide))
  refine ⟨⟨?_, ?_, ⟨v', ?_, ?_⟩, ?_, ?_⟩, by rw [cell_of_row W1 (B + 2) 0 _ 61 (0, 0) t1]; rfl, frozen_of_row W1 (B + 2) 0 _ 61 t1⟩
  · rw [heap_setCell_other W1 _ _ _ (show B ≠ B + 2 by omega), other _ _ _ h.res (by decide)]
    exact h.res
  · rw [heap_setCell_other W1 _ _ _ (show B + 1 ≠ B + 2 by omega), other _ _ _ h.flt (by decide)]
    exact h.flt
  · rw [heap_setCell_at W1 (B + 2) 0 _ 61 (0, 0) v' t1]
    rfl
  · exact own_mv ho (fun k hk => by
      obtain ⟨cur, hc⟩ := own_ty ho k hk
      exact heap_setCell_other W1 _ k _ (sty k cur 69 hc (by decide)))
  · exact hlin.move (fun k cur t hc hte => heap_setCell_other W1 _ k _ (sty k cur t hc (by rcases hte with rfl | rfl <;> decide)))
  · exact (h.bel.grown hg (Nat.le_of_lt (Array.getElem?_eq_some_iff.1 h.res).1) (fun k hk => Nat.le_trans (by omega) (hown.lt k hk).1)).setCell (by show B ≤ B + 2; omega) _

theorem PW.tabR {B : Nat} {c x : Int} {v : Value} {ls : List Line} {w : World} {L : List Ent} {W : World} (h : PW B c x v ls w L W) (u1 u2 : Value) : TabAt 61 69 (B + 2) L ((W.setCell ⟨B, 0, none⟩ u1).setCell ⟨B, 1, none⟩ u2) := by
  obtain ⟨tv, t1, t2⟩ := h.tab
  have other : ∀ k, k ≠ B → ((W.setCell ⟨B, 0, none⟩ u1).setCell ⟨B, 1, none⟩ u2).heap[k]? = W.heap[k]? := fun k hk =>
    (heap_setCell_other _ _ k _ hk).trans (heap_setCell_other W _ k _ hk)
  exact ⟨tv, (other _ (by omega)).trans t1, own_low (own_mv t2 (fun k hk => other k (by have := (t2.lt k hk).1; omega))) (Nat.zero_le _)⟩

theorem PW.drew {B : Nat} {c x : Int} {v : Value} {ls : List Line} {w : World} {L : List Ent} {W : World} (h : PW B c x v ls w L W) : PW B c x v ls w L W.drew :=
  ⟨h.res, h.flt, h.tab, h.lin, h.bel.drew⟩

theorem tri_cells {W : World} {b : Nat} {x y z : Value} {T : TypeId} (h : W.heap[b]? = some (.cells #[x, y, z] T (0, 0))) : W.cell? ⟨b, 0, none⟩ = some x ∧ W.cell? ⟨b, 1, none⟩ = some y ∧ W.cell? ⟨b, 2, none⟩ = some z :=
  ⟨by rw [cell_of_row W b 0 _ T (0, 0) h]; rfl, by rw [cell_of_row W b 1 _ T (0, 0) h]; rfl, by rw [cell_of_row W b 2 _ T (0, 0) h]; rfl⟩

set_option maxHeartbeats 1000000 in
set_option maxRecDepth 100000 in
theorem parse6 (s : ByteArray) (w : World) (hs : s.size ≤ maxLen) :
    Calls Tryd.prog 6 #[.string s] w fun e w' => ParseEnd 61 69 (parse s) w.heap.size e w' ∧ Below w.heap.size w w' := by
  unfold maxLen at hs
  go_enter Tryd.func6, Tryd.ntmps6
  go_wp2
  refine wp_scope_forward 0 rfl ?_
  by_cases hlong : 262144 < s.size
  · have HR : Hid (parse s = (none, 60, 262144)) := if_pos hlong
    go_wp2
    go_step3
    refine ⟨rfl, ?_⟩
    have hB3 : Below w.heap.size w (((w.alloc (Obj.cells #[Value.int IntKind.i64 0, Value.int IntKind.i64 0] 27)).alloc (Obj.cells #[Value.int IntKind.i64 60, Value.int IntKind.i64 262144] 27)).alloc (Obj.cells #[Value.slice none 0 0] 61)) := (((Below.refl _ _).alloc (Nat.le_refl _) _).alloc (by simp) _).alloc (by simp; omega) _
    obtain ⟨hR3, hF3, _⟩ := at3 w (Obj.cells #[Value.int IntKind.i64 0, Value.int IntKind.i64 0] 27) (Obj.cells #[Value.int IntKind.i64 60, Value.int IntKind.i64 262144] 27) (Obj.cells #[Value.slice none 0 0] 61)
    have HB := hide hB3
    clear hB3
    generalize ((w.alloc (Obj.cells #[Value.int IntKind.i64 0, Value.int IntKind.i64 0] 27)).alloc (Obj.cells #[Value.int IntKind.i64 60, Value.int IntKind.i64 262144] 27)).alloc (Obj.cells #[Value.slice none 0 0] 61) = W at HB hR3 hF3 ⊢
    obtain ⟨r0, r1, r2, r3⟩ := pair_cells hR3
    obtain ⟨f0, f1, f2, f3⟩ := pair_cells hF3
    clear hR3 hF3
    go_wp2
    go_region
    go_wp2
    rw [Exit.noGoto_ret]
    refine bodyPost_ret (v := .tuple #[.pointer none, .agg #[.int .i64 60, .int .i64 262144]]) (by simp [results, Tryd.results6, go_sem, r0, r1]) rfl ⟨⟨none, by rw [HR.out]; rfl, .inl ⟨by rw [HR.out], rfl⟩⟩, ?_⟩
    exact ((HB.out.setCell (Nat.le_refl _) _).setCell (Nat.le_refl _) _).drew
  · have HR : Hid (parse s = parseGo (s.size + 1) (minF (s.size + 1) (linesOf s).2) (linesOf s).1 []) := if_neg hlong
    have HCu := hide (fun W => cut16 s W (by omega))
    have HGd := hide (Good.lines s)
    have hml := minF_le (s.size + 1) (linesOf s).2
    generalize (linesOf s).1 = lines at HR HCu HGd
    generalize minF (s.size + 1) (linesOf s).2 = m at HR HCu hml
    generalize hx : encI (s.size + 1) m = x at HCu
    have HX := hide hx
    clear hx
    go_wp2_with fail
    refine (HCu.out _).mono ?_
    rintro e w1 ⟨v, rfl, hlin, hb1⟩
    obtain ⟨q0, q1, q2⟩ := at3 w (Obj.cells #[Value.int IntKind.i64 0, Value.int IntKind.i64 0] 27) (Obj.cells #[Value.int IntKind.i64 0, Value.int IntKind.i64 0] 27) (Obj.cells #[Value.slice none 0 0] 61)
    have hz : (((w.alloc (Obj.cells #[Value.int IntKind.i64 0, Value.int IntKind.i64 0] 27)).alloc (Obj.cells #[Value.int IntKind.i64 0, Value.int IntKind.i64 0] 27)).alloc (Obj.cells #[Value.slice none 0 0] 61)).heap.size = w.heap.size + 3 := by simp
    have hbb : Below w.heap.size w (((w.alloc (Obj.cells #[Value.int IntKind.i64 0, Value.int IntKind.i64 0] 27)).alloc (Obj.cells #[Value.int IntKind.i64 0, Value.int IntKind.i64 0] 27)).alloc (Obj.cells #[Value.slice none 0 0] 61)) := (((Below.refl _ _).alloc (Nat.le_refl _) _).alloc (by simp) _).alloc (by simp; omega) _
    generalize (((w.alloc (Obj.cells #[Value.int IntKind.i64 0, Value.int IntKind.i64 0] 27)).alloc (Obj.cells #[Value.int IntKind.i64 0, Value.int IntKind.i64 0] 27)).alloc (Obj.cells #[Value.slice none 0 0] 61)) = W0 at hlin hb1 q0 q1 q2 hz hbb
    rw [hz] at hlin
    have HP : Hid (PW w.heap.size 0 0 v (lines.map conv) w [] w1) := ⟨(hb1.block _ (by omega)).trans q0, (hb1.block _ (by omega)).trans q1, ⟨_, (hb1.block _ (by omega)).trans q2, World.ownsRow_nil _ _ _ _⟩, hlin, hbb.trans (hb1.mono (by omega))⟩
    clear hlin hb1 q0 q1 q2 hz hbb
    obtain ⟨f0, f1, f2, f3⟩ := pair_cells HP.out.flt
    have hlv := LinesAt.form HP.out.lin
    obtain ⟨A, cap, hv⟩ := hlv
    rw [List.length_map] at hv
    subst hv
    go_upto_if 26 with (fail)
    have HP1 : Hid (PW w.heap.size 0 x (.slice A lines.length cap) (lines.map conv) w [] (w1.setCell ⟨w.heap.size + 1, 1, none⟩ (.int .i64 x))) := HP.out.setF 1 _ rfl
    have HFr : Hid (∀ W u, PW w.heap.size 0 x (.slice A lines.length cap) (lines.map conv) w [] W → u = Value.int .i64 61 → PW w.heap.size 61 x (.slice A lines.length cap) (lines.map conv) w [] (W.setCell ⟨w.heap.size + 1, 0, none⟩ u)) := fun W u h hu => by subst hu; exact h.setF 0 _ rfl
    obtain ⟨g0, g1, g2, g3⟩ := pair_cells HP1.out.flt
    clear f0 f1 f2 f3 HP
    generalize w1.setCell ⟨w.heap.size + 1, 1, none⟩ (.int .i64 x) = w2 at HP1 g0 g1 g2 g3 ⊢
    go_cut [27] (fun _ wc => Hid (PW w.heap.size (if m = s.size + 1 then 0 else 61) x (.slice A lines.length cap) (lines.map conv) w [] wc))
    case first =>
      by_cases hm : m = s.size + 1
      · have hxv : x < 0 := by rw [← HX.out]; unfold encI; rw [if_pos hm]; decide
        have dx : decide (0 ≤ x) = false := decide_eq_false (by omega)
        have hE : Hid (PW w.heap.size (if m = s.size + 1 then 0 else 61) x (.slice A lines.length cap) (lines.map conv) w [] w2) := by rw [if_pos hm]; exact HP1.out
        clear hm
        go_wp2_with fail
        go_meet
        case rel => exact hE
      · have hxv : 0 ≤ x := by rw [← HX.out]; unfold encI; rw [if_neg hm]; omega
        have dx : decide (0 ≤ x) = true := decide_eq_true hxv
        have hE : Hid (PW w.heap.size (if m = s.size + 1 then 0 else 61) x (.slice A lines.length cap) (lines.map conv) w [] (w2.setCell ⟨w.heap.size + 1, 0, none⟩ (.int .i64 61))) := by rw [if_neg hm]; exact HFr.out _ _ HP1.out rfl
        clear hm
        go_wp2_with fail
        go_meet
        case rel => exact hE
    case rest =>
      clear g0 g1 g2 g3 HP1 HFr
      have HPc := hcut
      clear hcut
      generalize hc : (if m = s.size + 1 then (0 : Int) else 61) = c at HPc
      have HC := hide hc
      clear hc
      obtain ⟨f0, f1, f2, f3⟩ := pair_cells HPc.out.flt
      go_wp2
      clear f0 f1 f2 f3
      have hll := HGd.out.len
      go_loopw [30] (fun vi wr => ∃ (j : Nat) (L : List Ent), vi = .int .i64 j ∧ j ≤ lines.length ∧ L.length ≤ 2000 ∧ Hid (parse s = parseGo (s.size + 1) m (lines.drop j) L) ∧ Hid (PW w.heap.size c x (.slice A lines.length cap) (lines.map conv) w L wr)) (fun vi _ => lines.length - (intOf vi).toNat)
      case atStart => exact ⟨0, [], rfl, Nat.zero_le _, by simp, HR, HPc⟩
      case round =>
        obtain ⟨j, L, rfl, hj, hL, HRj, HPj⟩ := hrel
        by_cases jlt : j < lines.length
        · have jd : decide (j < lines.length) = true := decide_eq_true jlt
          have jm : j < (lines.map conv).length := by rw [List.length_map]; exact jlt
          obtain ⟨g, A2, c2, rfl, -, hcap, k0, k1, k2, kO⟩ := LinesAt.get HPj.out.lin j jm
          rw [List.getElem_map] at k0 k1 k2 kO
          have hdrop : lines.drop j = lines[j] :: lines.drop (j + 1) := List.drop_eq_getElem_cons jlt
          rw [hdrop] at HRj
          clear hdrop
          rw [parseGo] at HRj
          have hmem : lines[j] ∈ lines := List.getElem_mem jlt
          have hl1 := (HGd.out.at_ _ hmem).2
          have hpcs := HGd.out.pcs _ hmem
          have htxt := HGd.out.txt _ hmem
          generalize lines[j] = l at k0 k1 k2 kO HRj hl1 hpcs htxt
          clear hmem jm
          have hsum : sumLen (piecesOf l) ≤ 1000000 := by
            have hf : (trimB (firstOf l)).size ≤ s.size := by
              refine Nat.le_trans (trimB_le _) ?_
              unfold firstOf
              rw [ByteArray.size_extract]
              omega
            unfold piecesOf
            by_cases h0 : (trimB (firstOf l)).size = 0
            · rw [if_pos h0, List.nil_append]; omega
            · rw [if_neg h0, List.singleton_append]
              unfold sumLen at hpcs ⊢
              rw [List.map_cons, List.sum_cons]
              omega
          change wr.cell? ⟨g, j * 3, none⟩ = some (.int .i64 (l.1 : Int)) at k0
          change wr.cell? ⟨g, j * 3 + 1, none⟩ = some (.string (keyOf l)) at k1
          change wr.cell? ⟨g, j * 3 + 2, none⟩ = some (.slice A2 (piecesOf l).length c2) at k2
          change wr.ownsRow _ 9 1 (.slice A2 (piecesOf l).length c2) (piecesOf l).length (strsV (piecesOf l)) at kO
          have KO := hide kO
          have hval : joinB (piecesOf l) = valOf l := rfl
          have HVal := hide hval
          clear kO hval hpcs htxt
          generalize keyOf l = key at k1 HRj
          generalize valOf l = val at HVal HRj
          generalize piecesOf l = pcs at k2 KO hsum HVal
          generalize l.1 = at_ at k0 HRj hl1
          go_upto_region 12 with (fail)
          have hba : Below wr.heap.size wr (wr.alloc (.cells #[.int .i64 (at_ : Int), .string key, .slice A2 pcs.length c2] 65)) := (Below.refl _ _).alloc (Nat.le_refl _) _
          have HPk : Hid (PW w.heap.size c x (.slice (some ⟨g, 0, none⟩) lines.length cap) (lines.map conv) w L (wr.alloc (.cells #[.int .i64 (at_ : Int), .string key, .slice A2 pcs.length c2] 65))) := HPj.out.below hba HPj.out.bel.size
          have KO2 : Hid ((wr.alloc (.cells #[.int .i64 (at_ : Int), .string key, .slice A2 pcs.length c2] 65)).ownsRow (w.heap.size + 3) 9 1 (.slice A2 pcs.length c2) pcs.length (strsV pcs)) := KO.out.alloc _
          have hxb : (wr.alloc (.cells #[.int .i64 (at_ : Int), .string key, .slice A2 pcs.length c2] 65)).heap[wr.heap.size]? = some (.cells #[.int .i64 (at_ : Int), .string key, .slice A2 pcs.length c2] 65 (0, 0)) := by
            show (wr.heap.push _)[wr.heap.size]? = _
            rw [Array.getElem?_push, if_pos rfl]
          have hw0 : w.heap.size ≤ wr.heap.size := HPj.out.bel.size
          clear hba HPj KO k0 k1 k2
          generalize wr.alloc (.cells #[.int .i64 (at_ : Int), .string key, .slice A2 pcs.length c2] 65) = W1 at HPk KO2 hxb ⊢
          generalize wr.heap.size = xb at hxb hw0 ⊢
          have Hxb := hide hxb
          obtain ⟨x0, x1, x2⟩ := tri_cells hxb
          clear hxb
          obtain ⟨f0, f1, f2, f3⟩ := pair_cells HPk.out.flt
          go_cut [43] (fun v wc => W1 = wc ∧ v = .bool (decide (m ≤ at_)))
          case first =>
            by_cases hm : m = s.size + 1
            · have hc0 : (0 : Int) = c := by rw [← HC.out, if_pos hm]
              subst hc0
              have hd : decide (m ≤ at_) = false := decide_eq_false (by omega)
              clear hm
              go_wp2_with fail
              go_meet
              case rel => exact ⟨rfl, by rw [hd]⟩
            · have hc0 : (61 : Int) = c := by rw [← HC.out, if_neg hm]
              subst hc0
              have hx0 : (m : Int) = x := by rw [← HX.out]; unfold encI; rw [if_neg hm]
              subst hx0
              clear hm
              go_wp2_with fail
              go_meet
              case rel => exact ⟨rfl, by go_num⟩
          case rest =>
            obtain ⟨rfl, rfl⟩ := hcut
            clear f0 f1 f2 f3
            by_cases hma : m ≤ at_
            · have hmd : decide (m ≤ at_) = true := decide_eq_true hma
              have HRx : Hid (parse s = (none, 61, m)) := by rw [HRj.out, if_neg (by omega)]; rfl
              have hm : ¬ m = s.size + 1 := by omega
              have hc0 : (61 : Int) = c := by rw [← HC.out, if_neg hm]
              subst hc0
              have hx0 : (m : Int) = x := by rw [← HX.out]; unfold encI; rw [if_neg hm]
              subst hx0
              clear hm
              obtain ⟨r0, r1, r2, r3⟩ := pair_cells HPk.out.res
              obtain ⟨f0, f1, f2, f3⟩ := pair_cells HPk.out.flt
              go_wp2_with fail
              go_step3
              refine ⟨rfl, ?_⟩
              go_wp2
              go_region
              go_wp2
              rw [Exit.noGoto_ret]
              refine bodyPost_ret (v := .tuple #[.pointer none, .agg #[.int .i64 61, .int .i64 (m : Int)]]) (by simp [results, Tryd.results6, go_sem, r0, r1]) rfl ⟨⟨none, by rw [HRx.out], .inl ⟨by rw [HRx.out], rfl⟩⟩, ?_⟩
              exact ((HPk.out.bel.setCell (Nat.le_refl _) _).setCell (Nat.le_refl _) _).drew
            · have hmd : decide (m ≤ at_) = false := decide_eq_false hma
              rw [hmd]
              have HRx := hide (HRj.out.trans (if_pos (by omega)))
              clear HRj hma
              have HJn := hide (fun W hw => join17 A2 c2 pcs (w.heap.size + 3) W hw hsum)
              rw [HVal.out] at HJn
              go_wp2_with fail
              refine (HJn.out _ KO2.out).mono ?_
              rintro e W2 ⟨rfl, hb2⟩
              have HPk2 := hide (HPk.out.below hb2 HPk.out.bel.size)
              have Hxb2 := hide ((hb2.block _ (Array.getElem?_eq_some_iff.1 Hxb.out).1).trans Hxb.out)
              clear HPk Hxb KO2 HJn HVal hb2 x0 x1 x2 hsum
              obtain ⟨x0, x1, x2⟩ := tri_cells Hxb2.out
              have HPl := hide (place18 (w.heap.size + 1 + 1) L key W2 HPk2.out.tabAt hL)
              generalize hpb : placeB L key = pb at HPl HRx
              have HPi := hide (placeI_le L key)
              generalize placeI L key = pi at HPl HRx HPi
              go_wp2_with fail
              refine HPl.out.mono ?_
              rintro e W3 ⟨rfl, hb3⟩
              have HPk3 := hide (HPk2.out.below hb3 HPk2.out.bel.size)
              have Hxb3 := hide ((hb3.block _ (Array.getElem?_eq_some_iff.1 Hxb2.out).1).trans Hxb2.out)
              clear HPk2 Hxb2 HPl hb3 x0 x1 x2
              obtain ⟨x0, x1, x2⟩ := tri_cells Hxb3.out
              go_upto_block 2 with (fail)
              obtain ⟨f0, f1, f2, f3⟩ := pair_cells HPk3.out.flt
              have HFs : Hid (∀ cd : Int, PW w.heap.size cd at_ (.slice (some ⟨g, 0, none⟩) lines.length cap) (lines.map conv) w L ((W3.setCell ⟨w.heap.size + 1, 0, none⟩ (.int .i64 cd)).setCell ⟨w.heap.size + 1, 1, none⟩ (.int .i64 (at_ : Int)))) := fun cd => (HPk3.out.setF 0 (.int .i64 cd) rfl).setF 1 (.int .i64 (at_ : Int)) rfl
              go_cut [] (fun wc => ∃ cd : Int, Hid (parse s = (none, cd, at_)) ∧ Hid (PW w.heap.size cd at_ (.slice (some ⟨g, 0, none⟩) lines.length cap) (lines.map conv) w L wc))
              case first =>
                by_cases h1 : 320 < key.size
                · have hR := hide (HRx.out.trans (if_pos (.inl h1)))
                  have d1 : decide (320 < key.size) = true := decide_eq_true h1
                  clear HRx
                  go_wp2_with fail
                  go_meet
                  case rel => exact ⟨61, hR, HFs.out 61⟩
                · have d1 : decide (320 < key.size) = false := decide_eq_false h1
                  by_cases h2 : val.size = 0
                  · have hR := hide (HRx.out.trans (if_pos (.inr (.inl h2))))
                    have d2 := emp_list h2
                    clear HRx
                    go_wp2_with fail
                    go_meet
                    case rel => exact ⟨61, hR, HFs.out 61⟩
                  · have d2 := nemp_list h2
                    by_cases h3 : 1000 < val.size
                    · have hR := hide (HRx.out.trans (if_pos (.inr (.inr h3))))
                      have d3 : decide (1000 < val.size) = true := decide_eq_true h3
                      clear HRx
                      go_wp2_with fail
                      go_meet
                      case rel => exact ⟨61, hR, HFs.out 61⟩
                    · have d3 : decide (1000 < val.size) = false := decide_eq_false h3
                      have hR := hide (HRx.out.trans (if_neg (by omega)))
                      clear HRx
                      by_cases h4 : pb = true
                      · subst h4
                        have hR2 := hide (hR.out.trans (if_pos rfl))
                        clear hR
                        go_wp2_with fail
                        go_meet
                        case rel => exact ⟨63, hR2, HFs.out 63⟩
                      · have h4' : pb = false := by simpa using h4
                        subst h4'
                        have hR2 := hide (hR.out.trans (if_neg (by simp)))
                        clear hR h4
                        obtain ⟨tv, t1, t2⟩ := HPk3.out.tab
                        have Ht2 := hide t2
                        clear t2
                        obtain ⟨A3, cap3, rfl⟩ := own_form Ht2.out
                        have q0 : W3.cell? ⟨w.heap.size + 1 + 1, 0, none⟩ = some (.slice A3 L.length cap3) := by rw [cell_of_row W3 (w.heap.size + 1 + 1) 0 _ 61 (0, 0) t1]; rfl
                        have q1 := frozen_of_row W3 (w.heap.size + 1 + 1) 0 _ 61 t1
                        by_cases h5 : L.length = 2000
                        · have hR3 := hide (hR2.out.trans (if_pos h5))
                          have d5 : decide (L.length = 2000) = true := decide_eq_true h5
                          clear hR2
                          go_wp2_with fail
                          go_meet
                          case rel => exact ⟨62, hR3, HFs.out 62⟩
                        · have hR3 := hide (hR2.out.trans (if_neg h5))
                          have d5 : decide (L.length = 2000) = false := decide_eq_false h5
                          clear hR2
                          go_upto_region 15 with (fail)
                          generalize ((L.length : Int) == 2000) = q5
                          generalize decide ((320 : Int) < (key.size : Int)) = q6
                          generalize decide ((1000 : Int) < (val.size : Int)) = q7
                          go_cut [] (fun wc => Hid (PW w.heap.size c x (.slice (some ⟨g, 0, none⟩) lines.length cap) (lines.map conv) w (insL L pi (key, val)) wc))
                          case first =>
                            clear f0 f1 f2 f3 x0 x2 HFs d1 d2 d3 d5 h1 h2 h3 h5
                            have hba : Below W3.heap.size W3 (W3.alloc (.cells #[.string key, .string val] 69)) := (Below.refl _ _).alloc (Nat.le_refl _) _
                            have HIn : Hid (Calls Tryd.prog 19 #[.slice A3 L.length cap3, .int .i64 (pi : Int), .slice (some ⟨W3.heap.size, 0, none⟩) 1 1] (W3.alloc (.cells #[.string key, .string val] 69)).drew fun r w' => ∃ A' n' c', r = .returned (.slice A' n' c') ∧
                                Hid (PW w.heap.size c x (.slice (some ⟨g, 0, none⟩) lines.length cap) (lines.map conv) w (insL L pi (key, val)) (w'.setCell ⟨w.heap.size + 1 + 1, 0, none⟩ (.slice A' n' c'))) ∧ w'.cell? ⟨w.heap.size + 1 + 1, 0, none⟩ = some (.slice A3 L.length cap3) ∧ w'.frozen? ⟨w.heap.size + 1 + 1, 0, none⟩ = false) := by
                              have hP := HPk3.out.below hba HPk3.out.bel.size
                              have ht := (hba.block _ (Array.getElem?_eq_some_iff.1 t1).1).trans t1
                              have ho : (W3.alloc (.cells #[.string key, .string val] 69)).ownsRow (w.heap.size + 3) 69 2 (.slice A3 L.length cap3) L.length (cellsOf L) := Ht2.out.alloc _
                              refine (insert19 _ L pi (key, val) W3.heap.size (w.heap.size + 3) _ ho.drew ?_ HPi.out hL ?_ ?_).mono ?_
                              · show w.heap.size + 3 ≤ (W3.heap.push _).size
                                rw [Array.size_push]
                                have := (Array.getElem?_eq_some_iff.1 t1).1
                                omega
                              · show (W3.heap.push _)[W3.heap.size]? = _
                                rw [Array.getElem?_push, if_pos rfl]
                              · intro hk
                                have := (Ht2.out.lt _ hk).2
                                omega
                              · rintro r w' ⟨v', rfl, ho', hg'⟩
                                have hz := insL_len L pi (key, val) HPi.out
                                obtain ⟨hP', hc', hf'⟩ := PW.ins (L' := insL L pi (key, val)) hP.drew ht ho.drew hg' (by rw [hz]; exact ho')
                                obtain ⟨A', c', rfl⟩ := own_form ho'
                                exact ⟨A', _, c', rfl, hP', hc', hf'⟩
                            have q0' : (W3.alloc (.cells #[.string key, .string val] 69)).cell? ⟨w.heap.size + 1 + 1, 0, none⟩ = some (.slice A3 L.length cap3) := cell_kept hba (Array.getElem?_eq_some_iff.1 t1).1 q0
                            clear hba HPk3 Ht2 t1
                            go_region_with (go_at_call 19; refine HIn.out.mono ?_; rintro r w' ⟨A', n', c', rfl, hP', hc', hf'⟩)
                            all_goals (go_wp2_with fail; go_meet; exact hP')
                          case rest =>
                            have hP := hcut
                            clear hcut HPk3 HFs t1 Ht2 q0 q1 f0 f1 f2 f3 x0 x1 x2 Hxb3
                            have hz := insL_len L pi (key, val) HPi.out
                            go_wp2_with fail
                            go_roundw
                            case rel => exact ⟨j + 1, insL L pi (key, val), by go_num, by omega, by omega, hR3, hP⟩
                            case measure => simp [intOf]; omega
              case rest =>
                obtain ⟨cd, hR, hP⟩ := hcut
                clear f0 f1 f2 f3 x0 x1 x2
                obtain ⟨r0, r1, r2, r3⟩ := pair_cells hP.out.res
                obtain ⟨f0, f1, f2, f3⟩ := pair_cells hP.out.flt
                go_wp2_with fail
                go_step3
                refine ⟨rfl, ?_⟩
                go_wp2
                go_region
                go_wp2
                rw [Exit.noGoto_ret]
                refine bodyPost_ret (v := .tuple #[.pointer none, .agg #[.int .i64 cd, .int .i64 (at_ : Int)]]) (by simp [results, Tryd.results6, go_sem, r0, r1]) rfl ⟨⟨none, by rw [hR.out], .inl ⟨by rw [hR.out], rfl⟩⟩, ?_⟩
                exact ((hP.out.bel.setCell (Nat.le_refl _) _).setCell (Nat.le_refl _) _).drew
        · have jd : decide (j < lines.length) = false := decide_eq_false jlt
          rw [List.drop_eq_nil_of_le (by omega), parseGo] at HRj
          clear HPc
          obtain ⟨r0, r1, r2, r3⟩ := pair_cells HPj.out.res
          obtain ⟨f0, f1, f2, f3⟩ := pair_cells HPj.out.flt
          by_cases hm : m = s.size + 1
          · have hc0 : (0 : Int) = c := by rw [← HC.out, if_pos hm]
            subst hc0
            have HRx := hide (HRj.out.trans (if_pos hm))
            clear HRj HR hm
            go_wp2_with fail
            rw [jump_ret]
            refine bodyPost_ret (v := .tuple #[.pointer (some ⟨w.heap.size + 1 + 1, 0, none⟩), .agg #[.int .i64 0, .int .i64 0]]) (by simp [results, Tryd.results6, go_sem, r0, r1]) rfl ⟨⟨some ⟨w.heap.size + 1 + 1, 0, none⟩, by rw [HRx.out]; rfl, .inr ⟨L, w.heap.size + 1 + 1, by rw [HRx.out], rfl, by omega, ?_, hL⟩⟩, ?_⟩
            · exact HPj.out.tabR _ _
            · exact (HPj.out.bel.setCell (Nat.le_refl _) _).setCell (Nat.le_refl _) _
          · have hc0 : (61 : Int) = c := by rw [← HC.out, if_neg hm]
            subst hc0
            have hx0 : (m : Int) = x := by rw [← HX.out]; unfold encI; rw [if_neg hm]
            subst hx0
            have HRx := hide (HRj.out.trans (if_neg hm))
            clear HRj HR hm
            go_wp2_with fail
            go_step3
            go_wp2
            go_region
            go_wp2
            rw [jump_ret]
            refine bodyPost_ret (v := .tuple #[.pointer none, .agg #[.int .i64 61, .int .i64 (m : Int)]]) (by simp [results, Tryd.results6, go_sem, r0, r1]) rfl ⟨⟨none, by rw [HRx.out], .inl ⟨by rw [HRx.out], rfl⟩⟩, ?_⟩
            exact ((HPj.out.bel.setCell (Nat.le_refl _) _).setCell (Nat.le_refl _) _).drew
end Go.Proofs.YtllocmgmilllaaaDoor
