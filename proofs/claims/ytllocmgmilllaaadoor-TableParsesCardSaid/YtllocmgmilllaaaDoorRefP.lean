/- What the reference's Parse comes to, in plain Lean: its loop, and that it gives what 'parse' gives. -/
import Derived.Test.YtllocmgmilllaaaDoorGood
import Derived.Test.YtllocmgmilllaaaDoorRefS
namespace Go.Proofs.YtllocmgmilllaaaDoor

/-- The reference's loop over the lines: the fault so far, and the place where it stops. -/
def goB : List Line → Int → Nat → List Ent → Option (List Ent) × Int × Nat
  | [], code, at_, L => if code = 0 then (some L, 0, 0) else (none, code, at_)
  | x :: r, code, at_, L => if x.1 < at_ then
      (if 320 < (keyOf x).size ∨ (valOf x).size = 0 ∨ 1000 < (valOf x).size then goB r 61 x.1 L
       else if placeB L (keyOf x) = true then goB r 63 x.1 L
       else if L.length = 2000 then goB r 62 x.1 L
       else goB r code at_ (insL L (placeI L (keyOf x)) (keyOf x, valOf x)))
    else (if code = 0 then (some L, 0, 0) else (none, code, at_))

theorem goB_stop (ls : List Line) (code : Int) (at_ : Nat) (L : List Ent) (hc : code ≠ 0) (h : ∀ l ∈ ls, at_ < l.1) : goB ls code at_ L = (none, code, at_) := by
  cases ls with
  | nil => rw [goB, if_neg hc]
  | cons x r =>
    have := h x (List.mem_cons_self ..)
    rw [goB, if_neg (by omega), if_neg hc]

theorem goB_parse (n m : Nat) : ∀ (ls : List Line) (L : List Ent), ls.Pairwise (fun a b => a.1 < b.1) → (∀ l ∈ ls, l.1 < n) → goB ls (if m = n then 0 else 61) m L = parseGo n m ls L
  | [], L, _, _ => by
    rw [goB, parseGo]
    by_cases h : m = n
    · rw [if_pos h, if_pos rfl, if_pos h]
    · rw [if_neg h, if_neg (by decide), if_neg h]
  | x :: r, L, hp, hn => by
    have hr := (List.pairwise_cons.1 hp).1
    have hx := hn x (List.mem_cons_self ..)
    rw [goB, parseGo]
    by_cases h : x.1 < m
    · rw [if_pos h, if_pos h]
      by_cases h1 : 320 < (keyOf x).size ∨ (valOf x).size = 0 ∨ 1000 < (valOf x).size
      · rw [if_pos h1, if_pos h1, goB_stop r 61 x.1 L (by decide) hr]
      · rw [if_neg h1, if_neg h1]
        by_cases h2 : placeB L (keyOf x) = true
        · rw [if_pos h2, if_pos h2, goB_stop r 63 x.1 L (by decide) hr]
        · rw [if_neg h2, if_neg h2]
          by_cases h3 : L.length = 2000
          · rw [if_pos h3, if_pos h3, goB_stop r 62 x.1 L (by decide) hr]
          · rw [if_neg h3, if_neg h3]
            exact goB_parse n m r _ (List.pairwise_cons.1 hp).2 (fun l hl => hn l (List.mem_cons_of_mem _ hl))
    · have hm : ¬ m = n := by omega
      rw [if_neg h, if_neg h, if_neg hm, if_neg (by decide)]

theorem bad_go (s : ByteArray) : ∀ (f i : Nat) (out : List Line) (bad : List Nat), (linesGo s f i out bad).2.length ≤ bad.length + f
  | 0, i, out, bad => Nat.le_refl _
  | f + 1, i, out, bad => by
    unfold linesGo
    by_cases h : i < s.size
    · rw [if_pos h]
      have h1 := bad_go s f (endOf s i + 1) (lineStep s i out bad).1 (lineStep s i out bad).2
      have h2 := bad_step s i out bad
      omega
    · rw [if_neg h]
      show bad.length ≤ _
      omega
theorem bad_len (s : ByteArray) : (linesOf s).2.length ≤ s.size + s.size + 1 := by
  have h1 := bad_go s (s.size + 1) 0 [] (badFrom s s.size)
  have h2 : (badFrom s s.size).length ≤ s.size := by
    unfold badFrom
    refine Nat.le_trans (List.length_filter_le _ _) ?_
    rw [List.length_range]
    exact Nat.le_refl _
  unfold linesOf
  omega

theorem joinB_two (x y : ByteArray) (r : List ByteArray) : joinB (x :: y :: r) = joinB ((x ++ spS ++ y) :: r) := by
  apply ba_ext
  unfold joinB
  cases r with
  | nil => simp [Lib.join, List.intercalate, spS]
  | cons z q => simp [Lib.join, List.intercalate, spS]

theorem valGo_join : ∀ (more : List ByteArray) (a : ByteArray), a.size ≠ 0 → valGo a more = joinB (a :: more)
  | [], a, _ => by
    apply ba_ext
    simp [valGo, joinB, Lib.join, List.intercalate]
  | x :: r, a, h => by
    have e : valGo a (x :: r) = valGo (a ++ spS ++ x) r := by
      show valGo ((if a.size = 0 then a else a ++ spS) ++ x) r = _
      rw [if_neg h]
    rw [e, valGo_join r _ (by rw [ByteArray.size_append, ByteArray.size_append]; omega), joinB_two]

theorem valGo_val (l : Line) (hne : ∀ x ∈ l.2.2, x.size ≠ 0) : valGo (trimB (firstOf l)) l.2.2 = valOf l := by
  unfold valOf piecesOf
  generalize trimB (firstOf l) = t
  generalize l.2.2 = more at hne ⊢
  by_cases h : t.size = 0
  · rw [if_pos h, List.nil_append]
    have ht : t = ⟨#[]⟩ := by
      apply ba_ext
      have : t.data.toList.length = 0 := by rw [size_list]; exact h
      exact List.length_eq_zero_iff.1 this
    cases more with
    | nil => rw [ht]; rfl
    | cons x r =>
      have hx := hne x (List.mem_cons_self ..)
      have e : valGo t (x :: r) = valGo x r := by
        show valGo ((if t.size = 0 then t else t ++ spS) ++ x) r = _
        rw [if_pos h]
        have : t ++ x = x := by
          apply ba_ext
          rw [ht]
          simp
        rw [this]
      rw [e, valGo_join r x hx]
  · rw [if_neg h, valGo_join more t h]
    rfl

theorem minF_take {n : Nat} {bad : List Nat} {k : Nat} (h : k < bad.length) : minF n (bad.take (k + 1)) = if bad[k] < minF n (bad.take k) then bad[k] else minF n (bad.take k) := by
  rw [List.take_succ_eq_append_getElem h, minF_snoc]
theorem minF_top (n : Nat) (bad : List Nat) : ∀ k, minF n (bad.take k) ≤ n := fun k => by
  induction k with
  | zero => exact Nat.le_refl _
  | succ k ih =>
    by_cases h : k < bad.length
    · rw [minF_take h]
      split <;> omega
    · rw [List.take_of_length_le (by omega)]
      rw [List.take_of_length_le (by omega)] at ih
      exact ih

end Go.Proofs.YtllocmgmilllaaaDoor
