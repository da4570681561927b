/- The lines of a text in memory: a row of (place, text, pieces), each line's pieces in a row of their own; what an append to the one or the other leaves. -/
import Derived.Test.YtllocmgmilllaaaDoorSpecL
import Derived.Maps.AppendAt
namespace Go.Proofs.YtllocmgmilllaaaDoor
open Go.RowKit

def strsV (l : List ByteArray) : List Value := l.map Value.string
def cell3 (p : Line × Value) : List Value := [.int .i64 p.1.1, .string p.1.2.1, p.2]
def rowC (ps : List (Line × Value)) : List Value := ps.flatMap cell3

theorem rowC_len (ps : List (Line × Value)) : (rowC ps).length = ps.length * 3 := by
  induction ps with
  | nil => rfl
  | cons a r ih => simp only [rowC, List.flatMap_cons, List.length_append, cell3, List.length_cons, List.length_nil] at ih ⊢; omega
theorem rowC_snoc (ps : List (Line × Value)) (p : Line × Value) : rowC (ps ++ [p]) = rowC ps ++ cell3 p := by
  unfold rowC
  rw [List.flatMap_append, List.flatMap_singleton]

/-- The lines 'out' in the slice v (type te's row, from block B on), the pieces in rows of strings. -/
def LinesAt (te : TypeId) (B : Nat) (v : Value) (out : List Line) (w : World) : Prop :=
  ∃ ps : List (Line × Value), ps.map Prod.fst = out ∧ w.ownsRow B te 3 v ps.length (rowC ps) ∧ (∀ p, p ∈ ps → w.ownsRow B 9 1 p.2 p.1.2.2.length (strsV p.1.2.2)) ∧
    ps.Pairwise (fun p q => ∀ k, p.2.ownBlock = some k → q.2.ownBlock ≠ some k)

theorem own_ty {w : World} {base : Nat} {e : TypeId} {size n : Nat} {v : Value} {xs : List Value} (h : w.ownsRow base e size v n xs) (k : Nat) (hk : v.ownBlock = some k) : ∃ cur, w.heap[k]? = some (.cells cur e (0, 0)) := by
  rcases h.2 with ⟨rfl, _⟩ | ⟨g, cap, cur, rfl, hg, hh, r⟩
  · simp [Value.ownBlock] at hk
  · have : g = k := by simpa [Value.ownBlock] using hk
    subst this
    exact ⟨cur, hh⟩
theorem own_mv {w w1 : World} {base : Nat} {e : TypeId} {size n : Nat} {v : Value} {xs : List Value} (h : w.ownsRow base e size v n xs) (hm : ∀ k, v.ownBlock = some k → w1.heap[k]? = w.heap[k]?) : w1.ownsRow base e size v n xs := by
  obtain ⟨h1, h2⟩ := h
  refine ⟨h1, ?_⟩
  rcases h2 with h2 | ⟨g, cap, cur, rfl, hg, hh, r⟩
  · exact .inl h2
  · exact .inr ⟨g, cap, cur, rfl, hg, (hm g (by simp [Value.ownBlock])).trans hh, r⟩
theorem own_form {w : World} {base : Nat} {e : TypeId} {size n : Nat} {v : Value} {xs : List Value} (h : w.ownsRow base e size v n xs) : ∃ A cap, v = .slice A n cap := by
  rcases h.2 with ⟨rfl, rfl⟩ | ⟨g, cap, cur, rfl, _⟩
  · exact ⟨none, 0, rfl⟩
  · exact ⟨_, cap, rfl⟩
theorem own_some {w : World} {base : Nat} {e : TypeId} {size n : Nat} {v : Value} {xs : List Value} (h : w.ownsRow base e size v n xs) (hn : 0 < n) : ∃ g cap, v = .slice (some ⟨g, 0, none⟩) n cap ∧ n ≤ cap ∧ base ≤ g ∧ g < w.heap.size := by
  rcases h.2 with ⟨rfl, rfl⟩ | ⟨g, cap, cur, rfl, hg, hh, hc, _⟩
  · omega
  · exact ⟨g, cap, rfl, hc, hg, (Array.getElem?_eq_some_iff.1 hh).1⟩

theorem LinesAt.move {te : TypeId} {B : Nat} {v : Value} {out : List Line} {w w1 : World} (h : LinesAt te B v out w)
    (hm : ∀ (k : Nat) (cur : Array Value) (t : TypeId), w.heap[k]? = some (Obj.cells cur t (0, 0)) → (t = te ∨ t = 9) → w1.heap[k]? = w.heap[k]?) : LinesAt te B v out w1 := by
  obtain ⟨ps, h1, h2, h3, h4⟩ := h
  refine ⟨ps, h1, own_mv h2 (fun k hk => ?_), fun p hp => own_mv (h3 p hp) (fun k hk => ?_), h4⟩
  · obtain ⟨cur, hc⟩ := own_ty h2 k hk
    exact hm k cur te hc (.inl rfl)
  · obtain ⟨cur, hc⟩ := own_ty (h3 p hp) k hk
    exact hm k cur 9 hc (.inr rfl)
theorem LinesAt.below {te : TypeId} {B : Nat} {v : Value} {out : List Line} {w w1 : World} (h : LinesAt te B v out w) (hb : Below w.heap.size w w1) : LinesAt te B v out w1 :=
  h.move (fun k _ _ hc _ => hb.block k (Array.getElem?_eq_some_iff.1 hc).1)
/-- A row of another type has been written. -/
theorem LinesAt.grown {te : TypeId} {B : Nat} {v : Value} {out : List Line} {w w1 : World} {u : Value} {e size n base : Nat} {xs : List Value} (h : LinesAt te B v out w) (ho : w.ownsRow base e size u n xs) (hg : w.grownBy w1 u.ownBlock) (h1 : e ≠ te) (h2 : e ≠ 9) : LinesAt te B v out w1 :=
  h.move (fun k cur t hc ht => hg.block k (Array.getElem?_eq_some_iff.1 hc).1 (fun e' => by
    obtain ⟨cur', hc'⟩ := own_ty ho k e'.symm
    rw [hc] at hc'
    injection hc' with hc'
    injection hc' with _ hc' _
    rcases ht with rfl | rfl
    · exact h1 hc'.symm
    · exact h2 hc'.symm))
theorem grown_other_ty {w w1 : World} {base base' : Nat} {e e' : TypeId} {size size' n n' : Nat} {v u : Value} {xs ys : List Value} (ho : w.ownsRow base e size v n xs) (hu : w.ownsRow base' e' size' u n' ys) (hne : e ≠ e') (hg : w.grownBy w1 v.ownBlock) : w1.ownsRow base' e' size' u n' ys :=
  own_mv hu (fun k hk => by
    obtain ⟨cur, hc⟩ := own_ty hu k hk
    refine hg.block k (Array.getElem?_eq_some_iff.1 hc).1 (fun e2 => ?_)
    obtain ⟨cur', hc'⟩ := own_ty ho k e2.symm
    rw [hc] at hc'
    injection hc' with hc'
    injection hc' with _ hc' _
    exact hne hc'.symm)
/-- A store into a row of another type. -/
theorem set_other_ty {w : World} {base base' : Nat} {e e' : TypeId} {size size' n n' g j : Nat} {cap : Nat} {x : Value} {u : Value} {xs ys : List Value} (ho : w.ownsRow base e size (.slice (some ⟨g, 0, none⟩) n cap) n xs) (hu : w.ownsRow base' e' size' u n' ys) (hne : e ≠ e') : (w.setCell ⟨g, j, none⟩ x).ownsRow base' e' size' u n' ys :=
  own_mv hu (fun k hk => by
    obtain ⟨cur, hc⟩ := own_ty hu k hk
    refine heap_setCell_other w _ k _ (fun e2 => ?_)
    have e3 : k = g := e2
    subst e3
    obtain ⟨cur', hc'⟩ := own_ty ho k rfl
    rw [hc] at hc'
    injection hc' with hc'
    injection hc' with _ hc' _
    exact hne hc'.symm)
theorem LinesAt.nil (te : TypeId) (B : Nat) (w : World) : LinesAt te B (.slice none 0 0) [] w :=
  ⟨[], rfl, World.ownsRow_nil w B te 3, fun p hp => by simp at hp, List.Pairwise.nil⟩
theorem LinesAt.form {te : TypeId} {B : Nat} {v : Value} {out : List Line} {w : World} (h : LinesAt te B v out w) : ∃ A cap, v = .slice A out.length cap := by
  obtain ⟨ps, rfl, h2, _⟩ := h
  obtain ⟨A, cap, rfl⟩ := own_form h2
  exact ⟨A, cap, by rw [List.length_map]⟩
theorem LinesAt.own {te : TypeId} {B : Nat} {v : Value} {out : List Line} {w : World} (h : LinesAt te B v out w) : ∃ xs, w.ownsRow B te 3 v out.length xs := by
  obtain ⟨ps, rfl, h2, _⟩ := h
  exact ⟨_, by rw [List.length_map]; exact h2⟩

/-- What an append of one line leaves. -/
theorem LinesAt.pushed {te : TypeId} {B : Nat} {v : Value} {ps : List (Line × Value)} {w : World} (hte : te ≠ 9) (h2 : w.ownsRow B te 3 v ps.length (rowC ps)) (h3 : ∀ p, p ∈ ps → w.ownsRow B 9 1 p.2 p.1.2.2.length (strsV p.1.2.2))
    (h4 : ps.Pairwise (fun p q => ∀ k, p.2.ownBlock = some k → q.2.ownBlock ≠ some k)) (l : Line) (f : Value) (hf : w.ownsRow B 9 1 f l.2.2.length (strsV l.2.2)) (hfn : ∀ p, p ∈ ps → ∀ k, p.2.ownBlock = some k → f.ownBlock ≠ some k)
    {v' : Value} {w1 : World} (ho : w1.ownsRow B te 3 v' (ps.length + 1) (rowC ps ++ cell3 (l, f))) (hg : w.grownBy w1 v.ownBlock) : LinesAt te B v' (ps.map Prod.fst ++ [l]) w1 := by
  have keep : ∀ (u : Value) (n : Nat) (xs : List Value), w.ownsRow B 9 1 u n xs → w1.ownsRow B 9 1 u n xs := fun u n xs hu => own_mv hu (fun k hk => by
    obtain ⟨cur, hc⟩ := own_ty hu k hk
    refine hg.block k (Array.getElem?_eq_some_iff.1 hc).1 (fun e' => ?_)
    obtain ⟨cur', hc'⟩ := own_ty h2 k e'.symm
    rw [hc] at hc'
    injection hc' with hc'
    injection hc' with _ hc' _
    exact hte hc'.symm)
  refine ⟨ps ++ [(l, f)], by rw [List.map_append]; rfl, ?_, fun p hp => ?_, ?_⟩
  · rw [List.length_append, List.length_singleton, rowC_snoc]
    exact ho
  · rcases List.mem_append.1 hp with hp | hp
    · exact keep _ _ _ (h3 p hp)
    · rw [List.mem_singleton.1 hp]
      exact keep _ _ _ hf
  · rw [List.pairwise_append]
    refine ⟨h4, List.pairwise_singleton _ _, fun p hp q hq => ?_⟩
    rw [List.mem_singleton.1 hq]
    exact hfn p hp

theorem rowC_set (ps : List (Line × Value)) (l l' : Line) (f f' : Value) (h1 : l'.1 = l.1) (h2 : l'.2.1 = l.2.1) : (rowC (ps ++ [(l, f)])).set (ps.length * 3 + 2) f' = rowC (ps ++ [(l', f')]) := by
  rw [rowC_snoc, rowC_snoc, List.set_append_right (h := by rw [rowC_len]; omega), rowC_len]
  rw [show ps.length * 3 + 2 - ps.length * 3 = 2 from by omega]
  unfold cell3
  rw [h1, h2]
  rfl

theorem LinesAt.added {te : TypeId} {B : Nat} {g cap : Nat} {ps : List (Line × Value)} {w : World} {l : Line} {f : Value} (hte : te ≠ 9) (h2 : w.ownsRow B te 3 (.slice (some ⟨g, 0, none⟩) (ps.length + 1) cap) (ps.length + 1) (rowC (ps ++ [(l, f)])))
    (h3 : ∀ p, p ∈ ps → w.ownsRow B 9 1 p.2 p.1.2.2.length (strsV p.1.2.2)) (hl : w.ownsRow B 9 1 f l.2.2.length (strsV l.2.2))
    (h4 : (ps ++ [(l, f)]).Pairwise (fun p q => ∀ k, p.2.ownBlock = some k → q.2.ownBlock ≠ some k)) (x : ByteArray)
    {f' : Value} {w1 : World} (ho : w1.ownsRow B 9 1 f' (l.2.2.length + 1) (strsV l.2.2 ++ [.string x])) (hg : w.grownBy w1 f.ownBlock) (hat : f'.ownBlock = f.ownBlock ∨ ∃ k, f'.ownBlock = some k ∧ w.heap.size ≤ k) :
    LinesAt te B (.slice (some ⟨g, 0, none⟩) (ps.length + 1) cap) (ps.map Prod.fst ++ [(l.1, l.2.1, l.2.2 ++ [x])]) (w1.setCell ⟨g, ps.length * 3 + 2, none⟩ f') := by
  rw [List.pairwise_append] at h4
  obtain ⟨h4a, _, h4b⟩ := h4
  have h4c : ∀ p, p ∈ ps → ∀ k, p.2.ownBlock = some k → f.ownBlock ≠ some k := fun p hp => h4b p hp (l, f) (List.mem_singleton.2 rfl)
  have hgt : ∃ cur, w.heap[g]? = some (.cells cur te (0, 0)) := own_ty h2 g rfl
  obtain ⟨curg, hgt⟩ := hgt
  have hglt : g < w.heap.size := (Array.getElem?_eq_some_iff.1 hgt).1
  have hgf : some g ≠ f.ownBlock := fun e' => by
    obtain ⟨cur', hc'⟩ := own_ty hl g e'.symm
    rw [hgt] at hc'
    injection hc' with hc'
    injection hc' with _ hc' _
    exact hte hc'
  have o1 : w1.ownsRow B te 3 (.slice (some ⟨g, 0, none⟩) (ps.length + 1) cap) (ps.length + 1) (rowC (ps ++ [(l, f)])) := own_mv h2 (fun k hk => by
    have : g = k := by simpa [Value.ownBlock] using hk
    subst this
    exact hg.block g hglt hgf)
  have o2 := (o1.stored (ps.length * 3 + 2) f').1
  rw [rowC_set ps l (l.1, l.2.1, l.2.2 ++ [x]) f f' rfl rfl] at o2
  have g1 : w1.heap[g]? = some (.cells curg te (0, 0)) := (hg.block g hglt hgf).trans hgt
  have keep : ∀ (u : Value) (n : Nat) (xs : List Value), w1.ownsRow B 9 1 u n xs → (w1.setCell ⟨g, ps.length * 3 + 2, none⟩ f').ownsRow B 9 1 u n xs := fun u n xs hu => own_mv hu (fun k hk => by
    obtain ⟨cur, hc⟩ := own_ty hu k hk
    refine heap_setCell_other w1 _ k _ (fun e' => ?_)
    have e2 : k = g := e'
    subst e2
    rw [g1] at hc
    injection hc with hc
    injection hc with _ hc _
    exact hte hc)
  refine ⟨ps ++ [((l.1, l.2.1, l.2.2 ++ [x]), f')], by rw [List.map_append]; rfl, ?_, fun p hp => ?_, ?_⟩
  · rw [List.length_append, List.length_singleton]
    exact o2
  · rcases List.mem_append.1 hp with hp | hp
    · refine keep _ _ _ (own_mv (h3 p hp) (fun k hk => ?_))
      obtain ⟨cur, hc⟩ := own_ty (h3 p hp) k hk
      exact hg.block k (Array.getElem?_eq_some_iff.1 hc).1 (fun e' => h4c p hp k hk e'.symm)
    · rw [List.mem_singleton.1 hp]
      refine keep _ _ _ ?_
      show w1.ownsRow B 9 1 f' (l.2.2 ++ [x]).length (strsV (l.2.2 ++ [x]))
      rw [List.length_append, List.length_singleton, strsV, List.map_append]
      exact ho
  · rw [List.pairwise_append]
    refine ⟨h4a, List.pairwise_singleton _ _, fun p hp q hq k hk => ?_⟩
    rw [List.mem_singleton.1 hq]
    show f'.ownBlock ≠ some k
    rcases hat with hat | ⟨k', hat, hlt⟩
    · rw [hat]
      exact h4c p hp k hk
    · rw [hat]
      intro e'
      have e2 : k' = k := by simpa using e'
      obtain ⟨cur, hc⟩ := own_ty (h3 p hp) k hk
      have := (Array.getElem?_eq_some_iff.1 hc).1
      omega

end Go.Proofs.YtllocmgmilllaaaDoor
