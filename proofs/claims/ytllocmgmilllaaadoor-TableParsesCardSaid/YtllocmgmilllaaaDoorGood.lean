/- What holds of the lines that a text comes to: they rise, they are short, their pieces are not empty. -/
import Derived.Test.YtllocmgmilllaaaDoorRefS
namespace Go.Proofs.YtllocmgmilllaaaDoor

structure Good (s : ByteArray) (i : Nat) (out : List Line) : Prop where
  len : out.length ≤ i
  at_ : ∀ l ∈ out, l.1 < i ∧ l.1 < s.size
  inc : out.Pairwise (fun a b => a.1 < b.1)
  txt : ∀ l ∈ out, l.2.1.size ≤ s.size
  pcs : ∀ l ∈ out, sumLen l.2.2 ≤ i
  ne : ∀ l ∈ out, ∀ x ∈ l.2.2, x.size ≠ 0

theorem sumLen_snoc (l : List ByteArray) (x : ByteArray) : sumLen (l ++ [x]) = sumLen l + (x.size + 1) := by
  unfold sumLen
  rw [List.map_append, List.sum_append]
  simp
theorem len_sumLen (l : List ByteArray) : l.length ≤ sumLen l := by
  induction l with
  | nil => exact Nat.le_refl _
  | cons x r ih =>
    have e2 : sumLen (x :: r) = (x.size + 1) + sumLen r := by unfold sumLen; rw [List.map_cons, List.sum_cons]
    rw [List.length_cons, e2]
    omega

theorem Good.nil (s : ByteArray) (i : Nat) : Good s i [] := ⟨Nat.zero_le _, fun _ h => by simp at h, List.Pairwise.nil, fun _ h => by simp at h, fun _ h => by simp at h, fun _ h => by simp at h⟩
theorem Good.mono {s : ByteArray} {i j : Nat} {out : List Line} (h : Good s i out) (hij : i ≤ j) : Good s j out :=
  ⟨by have := h.len; omega, fun l hl => by have := h.at_ l hl; omega, h.inc, h.txt, fun l hl => by have := h.pcs l hl; omega, h.ne⟩

theorem Good.push {s : ByteArray} {i j : Nat} {out : List Line} (h : Good s i out) (hi : i < s.size) (hij : i < j) (t : ByteArray) (ht : t.size ≤ s.size) : Good s j (out ++ [(i, t, [])]) := by
  have h' := h.mono (Nat.le_of_lt hij)
  refine ⟨?_, fun l hl => ?_, ?_, fun l hl => ?_, fun l hl => ?_, fun l hl => ?_⟩
  · have := h.len
    rw [List.length_append, List.length_singleton]
    omega
  · rcases List.mem_append.1 hl with hl | hl
    · exact h'.at_ l hl
    · rw [List.mem_singleton.1 hl]
      exact ⟨hij, hi⟩
  · rw [List.pairwise_append]
    refine ⟨h.inc, List.pairwise_singleton _ _, fun a ha b hb => ?_⟩
    rw [List.mem_singleton.1 hb]
    exact (h.at_ a ha).1
  · rcases List.mem_append.1 hl with hl | hl
    · exact h'.txt l hl
    · rw [List.mem_singleton.1 hl]
      exact ht
  · rcases List.mem_append.1 hl with hl | hl
    · exact h'.pcs l hl
    · rw [List.mem_singleton.1 hl]
      exact Nat.zero_le _
  · rcases List.mem_append.1 hl with hl | hl
    · exact h'.ne l hl
    · rw [List.mem_singleton.1 hl]
      intro x hx
      simp at hx

theorem Good.add {s : ByteArray} {i j : Nat} {out : List Line} (h : Good s i out) (x : ByteArray) (hx : x.size ≠ 0) (hj : i + x.size + 1 ≤ j) : Good s j (addLast out x) := by
  rcases List.eq_nil_or_concat out with rfl | ⟨init, l, rfl⟩
  · exact Good.nil s j
  · rw [List.concat_eq_append] at h ⊢
    rw [addLast_snoc]
    have h' := h.mono (show i ≤ j by omega)
    have hl : l ∈ init ++ [l] := List.mem_append_right _ (List.mem_singleton.2 rfl)
    have hi : ∀ q ∈ init, q ∈ init ++ [l] := fun q hq => List.mem_append_left _ hq
    refine ⟨?_, fun q hq => ?_, ?_, fun q hq => ?_, fun q hq => ?_, fun q hq => ?_⟩
    · have := h'.len
      rw [List.length_append, List.length_singleton] at this ⊢
      exact this
    · rcases List.mem_append.1 hq with hq | hq
      · exact h'.at_ q (hi q hq)
      · rw [List.mem_singleton.1 hq]
        exact h'.at_ l hl
    · have := h.inc
      rw [List.pairwise_append] at this ⊢
      obtain ⟨p1, _, p3⟩ := this
      refine ⟨p1, List.pairwise_singleton _ _, fun a ha b hb => ?_⟩
      rw [List.mem_singleton.1 hb]
      exact p3 a ha l (List.mem_singleton.2 rfl)
    · rcases List.mem_append.1 hq with hq | hq
      · exact h'.txt q (hi q hq)
      · rw [List.mem_singleton.1 hq]
        exact h'.txt l hl
    · rcases List.mem_append.1 hq with hq | hq
      · exact h'.pcs q (hi q hq)
      · rw [List.mem_singleton.1 hq]
        show sumLen (l.2.2 ++ [x]) ≤ j
        rw [sumLen_snoc]
        have := h.pcs l hl
        omega
    · rcases List.mem_append.1 hq with hq | hq
      · exact h'.ne q (hi q hq)
      · rw [List.mem_singleton.1 hq]
        intro y hy
        rcases List.mem_append.1 hy with hy | hy
        · exact h.ne l hl y hy
        · rw [List.mem_singleton.1 hy]
          exact hx

theorem skip_ne {t : ByteArray} (h : ¬ skipB t = true) : t.size ≠ 0 := by
  intro h0
  apply h
  unfold skipB
  rw [h0]
  rfl

theorem Good.step {s : ByteArray} {i : Nat} {out : List Line} (h : Good s i out) (hi : i < s.size) (bad : List Nat) : Good s (endOf s i + 1) (lineStep s i out bad).1 := by
  obtain ⟨e1, e2⟩ := endOf_le s i (Nat.le_of_lt hi)
  have hsz : (s.extract i (endOf s i)).size ≤ endOf s i - i := by rw [ByteArray.size_extract]; omega
  unfold lineStep
  by_cases h1 : skipB (trimB (s.extract i (endOf s i))) = true
  · simp only [h1, if_true]
    exact h.mono (by omega)
  · simp only [h1, if_false, Bool.false_eq_true]
    by_cases h2 : blankB (bAt (s.extract i (endOf s i)) 0) = true
    · simp only [h2, if_true]
      by_cases h3 : out = []
      · simp only [h3, if_true]
        exact Good.nil _ _
      · simp only [h3, if_false]
        have := trimB_le (s.extract i (endOf s i))
        exact h.add _ (skip_ne h1) (by omega)
    · simp only [h2, if_false, Bool.false_eq_true]
      exact h.push hi (by omega) _ (by omega)

theorem bad_step (s : ByteArray) (i : Nat) (out : List Line) (bad : List Nat) : (lineStep s i out bad).2.length ≤ bad.length + 1 := by
  unfold lineStep
  by_cases h1 : skipB (trimB (s.extract i (endOf s i))) = true
  · simp only [h1, if_true]
    omega
  · simp only [h1, if_false, Bool.false_eq_true]
    by_cases h2 : blankB (bAt (s.extract i (endOf s i)) 0) = true
    · simp only [h2, if_true]
      by_cases h3 : out = []
      · simp only [h3, if_true, List.length_append, List.length_singleton]
        omega
      · simp only [h3, if_false]
        omega
    · simp only [h2, if_false, Bool.false_eq_true]
      omega

theorem Good.go {s : ByteArray} : ∀ (f i : Nat) (out : List Line) (bad : List Nat), Good s i out → i ≤ s.size + 1 → Good s (s.size + 1) (linesGo s f i out bad).1
  | 0, i, out, bad, h, hi => h.mono hi
  | f + 1, i, out, bad, h, hi => by
    unfold linesGo
    by_cases hlt : i < s.size
    · rw [if_pos hlt]
      have := (endOf_le s i (Nat.le_of_lt hlt)).2
      exact Good.go f _ _ _ (h.step hlt bad) (by omega)
    · rw [if_neg hlt]
      exact h.mono hi
theorem Good.lines (s : ByteArray) : Good s (s.size + 1) (linesOf s).1 := Good.go _ _ _ _ (Good.nil s 0) (Nat.zero_le _)

end Go.Proofs.YtllocmgmilllaaaDoor
