/- The program's 'add': a piece is put to a line, if there is something. -/
import Derived.Test.YtllocmgmilllaaaDoorFirst
namespace Go.Proofs.YtllocmgmilllaaaDoor
open Go.RowKit

theorem grown_below {w w1 : World} (h : Below w.heap.size w w1) (row : Option Nat) : w.grownBy w1 row := ⟨h.os, h.tape, h.output, h.size, fun k hk _ => h.block k hk⟩

theorem trim32 (s : ByteArray) (w : World) (hs : s.size ≤ 9223372036854775807) :
    Calls Tryd.prog 32 #[.string s, .string ⟨#[32, 9]⟩] w fun e w' => e = .returned (.string (trimB s)) ∧ Below w.heap.size w w' := Tryd.strings_Trim_blanks s w hs

set_option maxHeartbeats 400000 in
theorem add34_no (p : Option Addr) (s : ByteArray) (w : World) (hs : s.size ≤ 262144) (h0 : (trimB s).size = 0) :
    Calls Tryd.prog 34 #[.pointer p, .string s] w fun e w' => e = .returned (.tuple #[]) ∧ Below w.heap.size w w' := by
  have HT := hide (trim32 s w (by omega))
  generalize trimB s = t at HT h0
  have he := emp_list h0
  clear h0
  go_enter Tryd.func34, Tryd.ntmps34
  go_wp2_with fail
  refine (HT.out).mono ?_
  rintro e w' ⟨rfl, hb⟩
  have HB := hide hb
  clear hb
  go_wp2
  go_end0
  exact ⟨rfl, HB.out⟩

set_option maxHeartbeats 400000 in
theorem add34_yes (b o : Nat) (s : ByteArray) (A : Option Addr) (m cap B : Nat) (xs : List Value) (cur : Array Value) (w : World) (hs : s.size ≤ 262144) (h0 : ¬ (trimB s).size = 0) (hbt : w.heap[b]? = some (.cells cur 65 (0, 0)))
    (hc : w.cell? ⟨b, o + 2, none⟩ = some (.slice A m cap)) (hown : w.ownsRow B 9 1 (.slice A m cap) m xs) (hB : B ≤ w.heap.size) (hm : m ≤ 262144) :
    Calls Tryd.prog 34 #[.pointer (some ⟨b, o, none⟩), .string s] w fun e w' => ∃ f' w1, e = .returned (.tuple #[]) ∧ w' = w1.setCell ⟨b, o + 2, none⟩ f' ∧ w1.ownsRow B 9 1 f' (m + 1) (xs ++ [.string (trimB s)]) ∧ w.grownBy w1 (Value.slice A m cap).ownBlock ∧
      (f'.ownBlock = (Value.slice A m cap).ownBlock ∨ ∃ k, f'.ownBlock = some k ∧ w.heap.size ≤ k) := by
  obtain ⟨i9, hi9, hz9, hy9, hb9⟩ := info_parts info9
  have HT := hide (trim32 s w (by omega))
  generalize trimB s = t at HT h0 ⊢
  have he := nemp_list h0
  have hlt : b < w.heap.size := (Array.getElem?_eq_some_iff.1 hbt).1
  have HC := hide hc
  have HO := hide hown
  have HT2 := hide hbt
  clear h0 hc hown hbt
  go_enter Tryd.func34, Tryd.ntmps34
  go_wp2_with fail
  refine (HT.out).mono ?_
  rintro e w' ⟨rfl, hb⟩
  have hc1 := cell_kept hb hlt HC.out
  have HO1 := hide (own_mv HO.out (fun k hk => hb.block k (by obtain ⟨_, h⟩ := own_ty HO.out k hk; exact (Array.getElem?_eq_some_iff.1 h).1)) : w'.ownsRow B 9 1 (.slice A m cap) m xs)
  have hz := hb.size
  have HT3 := hide ((hb.block b hlt).trans HT2.out)
  have HB := hide hb
  clear hb
  go_wp2_with (
    at_builtin
    refine wpList_append_own_at _ rfl _ _ 52 rfl B 9 i9 (.string ⟨#[]⟩) 1 16 Tryd.underlying52 hi9 hz9 hy9 hb9 rfl (by decide) (.slice A m cap) _ _ rfl (World.ownsRow.alloc HO1.out (.cells #[.string t] 9)) ⟨w'.heap.size, 0, none⟩ 1 1 [.string t] rfl rfl (cell_one_new _ _ _) (by intro u hu; simp at hu; subst hu; rfl) (by unfold maxLen; omega) (by omega) (by simp; omega) ?_
    intro v' w1 hown' hgrow hnil hloc
    have hex := own_form hown'
    have hne : some b ≠ (Value.slice A m cap).ownBlock := fun e' => by
      obtain ⟨c2, h2⟩ := own_ty HO1.out b e'.symm
      have h3 := HT3.out
      rw [h2] at h3
      injection h3 with h3
      injection h3 with _ h3 _
      exact absurd h3 (by decide)
    have hblk : w1.heap[b]? = some (.cells cur 65 (0, 0)) := by
      rw [hgrow.block b (by simp; omega) hne]
      exact (Below.heap_alloc _ _ _ (by omega)).trans HT3.out
    have hcw : w1.cell? ⟨b, o + 2, none⟩ = some (.slice A m cap) := by
      rw [← hc1]
      exact World.cell?_of_block (w := w') (a := ⟨b, o + 2, none⟩) (hblk.trans HT3.out.symm)
    have hfz := frozen_of_row w1 b (o + 2) cur 65 hblk
    have HG : Hid (w.grownBy w1 (Value.slice A m cap).ownBlock) := (grown_below (HB.out.trans ((Below.refl _ _).alloc hz _)) _).trans hgrow
    have HL : Hid (v'.ownBlock = (Value.slice A m cap).ownBlock ∨ ∃ k, v'.ownBlock = some k ∧ w.heap.size ≤ k) := hloc.imp id fun h => ⟨_, h, by simp; omega⟩
    have HW := hide hown'
    obtain ⟨A2, cap2, hv2⟩ := hex
    rw [hv2] at HL HW ⊢
    clear hown' hgrow hnil hloc hv2 hne hblk)
  go_end0
  exact ⟨_, _, rfl, rfl, HW.out, HG.out, HL.out⟩

theorem own_low {w : World} {base base' : Nat} {e : TypeId} {size n : Nat} {v : Value} {xs : List Value} (h : w.ownsRow base e size v n xs) (hb : base' ≤ base) : w.ownsRow base' e size v n xs := by
  obtain ⟨h1, h2⟩ := h
  refine ⟨h1, ?_⟩
  rcases h2 with h2 | ⟨g, cap, cur, rfl, hg, r⟩
  · exact .inl h2
  · exact .inr ⟨g, cap, cur, rfl, Nat.le_trans hb hg, r⟩

/-- A new line's first piece. -/
def onePiece (s : ByteArray) : List ByteArray := if (trimB s).size = 0 then [] else [trimB s]

/-- 'add' at a line that has just been laid. -/
theorem add34_local (i : Int) (key s : ByteArray) (w : World) (hs : s.size ≤ 262144) :
    Calls Tryd.prog 34 #[.pointer (some ⟨w.heap.size, 0, none⟩), .string s] (w.alloc (.cells #[.int .i64 i, .string key, .slice none 0 0] 65)) fun e w' => ∃ A c, e = .returned (.tuple #[]) ∧
      w'.heap[w.heap.size]? = some (.cells #[.int .i64 i, .string key, .slice A (onePiece s).length c] 65 (0, 0)) ∧ w'.ownsRow w.heap.size 9 1 (.slice A (onePiece s).length c) (onePiece s).length (strsV (onePiece s)) ∧ Below w.heap.size w w' := by
  have hb0 : (w.alloc (.cells #[.int .i64 i, .string key, .slice none 0 0] 65)).heap[w.heap.size]? = some (.cells #[.int .i64 i, .string key, .slice none 0 0] 65 (0, 0)) := heap_alloc_new w _
  have hz : (w.alloc (.cells #[.int .i64 i, .string key, .slice none 0 0] 65)).heap.size = w.heap.size + 1 := by simp
  have hbl : Below w.heap.size w (w.alloc (.cells #[.int .i64 i, .string key, .slice none 0 0] 65)) := (Below.refl _ _).alloc (Nat.le_refl _) _
  generalize w.alloc (.cells #[.int .i64 i, .string key, .slice none 0 0] 65) = W at hb0 hz hbl ⊢
  by_cases h0 : (trimB s).size = 0
  · have e1 : onePiece s = [] := if_pos h0
    rw [e1]
    refine (add34_no _ s W hs h0).mono ?_
    rintro e w' ⟨rfl, hb⟩
    exact ⟨none, 0, rfl, (hb.block _ (by omega)).trans hb0, World.ownsRow_nil _ _ _ _, hbl.trans (hb.mono (by omega))⟩
  · have e1 : onePiece s = [trimB s] := if_neg h0
    rw [e1]
    refine (add34_yes w.heap.size 0 s none 0 0 w.heap.size [] _ W hs h0 hb0 (by rw [cell_of_row W _ _ _ 65 (0, 0) hb0]; rfl) (World.ownsRow_nil _ _ _ _) (by omega) (by omega)).mono ?_
    rintro e w' ⟨f', w1, rfl, rfl, ho, hg, hat⟩
    obtain ⟨A, c, rfl⟩ := own_form ho
    have hb1 : w1.heap[w.heap.size]? = some (.cells #[.int .i64 i, .string key, .slice none 0 0] 65 (0, 0)) := by
      rw [hg.block _ (by omega) (by simp [Value.ownBlock])]
      exact hb0
    have hbw1 : Below w.heap.size w w1 := hbl.grown hg (by omega) (fun k' e => by simp [Value.ownBlock] at e)
    refine ⟨A, c, rfl, ?_, ?_, hbw1.setCell (Nat.le_refl _) _⟩
    · rw [heap_setCell_at w1 w.heap.size 2 _ 65 (0, 0) _ hb1]
      rfl
    · refine own_mv ho (fun k hk => heap_setCell_other w1 _ k _ (fun e' => ?_))
      have e2 : k = w.heap.size := e'
      subst e2
      obtain ⟨cur, hc⟩ := own_ty ho _ hk
      rw [hb1] at hc
      injection hc with hc
      injection hc with _ hc _
      exact absurd hc (by decide)
end Go.Proofs.YtllocmgmilllaaaDoor
