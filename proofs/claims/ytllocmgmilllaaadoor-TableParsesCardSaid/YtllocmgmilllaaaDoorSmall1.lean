/- What a parsed table holds is small. -/
import Derived.Test.YtllocmgmilllaaaDoorSpecL
namespace Go.Proofs.YtllocmgmilllaaaDoor

def SmallE (L : List Ent) : Prop := ∀ e ∈ L, e.1.size ≤ 320 ∧ e.2.size ≤ 1000

theorem parseGo_small (n m : Nat) : ∀ (ls : List Line) (L : List Ent), SmallE L → ∀ M c x, parseGo n m ls L = (some M, c, x) → SmallE M ∧ c = 0 ∧ x = 0
  | [], L, h, M, c, x, e => by
    rw [parseGo] at e
    by_cases hm : m = n
    · rw [if_pos hm] at e
      cases e
      exact ⟨h, rfl, rfl⟩
    · rw [if_neg hm] at e
      cases e
  | l :: r, L, h, M, c, x, e => by
    rw [parseGo] at e
    by_cases h0 : l.1 < m
    · rw [if_pos h0] at e
      by_cases h1 : 320 < (keyOf l).size ∨ (valOf l).size = 0 ∨ 1000 < (valOf l).size
      · rw [if_pos h1] at e
        cases e
      · rw [if_neg h1] at e
        by_cases h2 : placeB L (keyOf l) = true
        · rw [if_pos h2] at e
          cases e
        · rw [if_neg h2] at e
          by_cases h3 : L.length = 2000
          · rw [if_pos h3] at e
            cases e
          · rw [if_neg h3] at e
            refine parseGo_small n m r _ (fun y hy => ?_) M c x e
            unfold insL at hy
            rw [List.mem_append, List.mem_cons] at hy
            rcases hy with hy | rfl | hy
            · exact h y (List.mem_of_mem_take hy)
            · exact ⟨by show (keyOf l).size ≤ 320; omega, by show (valOf l).size ≤ 1000; omega⟩
            · exact h y (List.mem_of_mem_drop hy)
    · rw [if_neg h0] at e
      cases e

theorem parse_small (s : ByteArray) (M : List Ent) (c : Int) (x : Nat) (e : parse s = (some M, c, x)) : SmallE M ∧ c = 0 ∧ x = 0 := by
  unfold parse at e
  by_cases h : 262144 < s.size
  · rw [if_pos h] at e
    cases e
  · rw [if_neg h] at e
    exact parseGo_small _ _ _ [] (fun y hy => absurd hy (List.not_mem_nil)) M c x e

end Go.Proofs.YtllocmgmilllaaaDoor
