/- The library's IndexAny at the two blanks, for every text: the first blank's place. What its short road asks of a rune beyond ASCII: no blank. -/
import Derived.Test.YtllocmgmilllaaaDoorRefE
import Derived.Test.YtllocmgmilllaaaDoorShelf
import Derived.WalkMore
import Derived.Laws.RangeString
import Derived.Laws.RangeAny
namespace Go.Proofs.YtllocmgmilllaaaDoor
open Go.RowKit

theorem below_iter (w : World) (s : ByteArray) (pos : Nat) : Below w.heap.size w (w.iter s pos) :=
  ⟨rfl, rfl, rfl, by simp [World.iter], fun k hk => by
    show (w.heap.push _)[k]? = _
    rw [Array.getElem?_push, if_neg (by omega)]⟩

def blanksS : ByteArray := ⟨#[32, 9]⟩

set_option maxHeartbeats 400000 in
set_option maxRecDepth 100000 in
theorem rune52_err (w : World) :
    Calls Tryd.prog 52 #[.string ⟨#[32, 9]⟩, .int .i32 65533] w fun e w' => e = .returned (.int .i64 (-1)) ∧ Below w.heap.size w w' := by
  have hn0 : ∀ ty, (Instr.next (.pointer (some ⟨w.heap.size, 0, none⟩)) true ty).run Tryd.prog (w.iter ⟨#[32, 9]⟩ 0) = .ok (.tuple #[.bool true, .int .i64 0, .int .i32 32]) (w.iter ⟨#[32, 9]⟩ 1) := fun ty => run_next_ascii (P := Tryd.prog) w ⟨#[32, 9]⟩ 0 ty (by decide) (by decide)
  have hn1 : ∀ ty, (Instr.next (.pointer (some ⟨w.heap.size, 0, none⟩)) true ty).run Tryd.prog (w.iter ⟨#[32, 9]⟩ 1) = .ok (.tuple #[.bool true, .int .i64 1, .int .i32 9]) (w.iter ⟨#[32, 9]⟩ 2) := fun ty => run_next_ascii (P := Tryd.prog) w ⟨#[32, 9]⟩ 1 ty (by decide) (by decide)
  have hn2 : ∀ ty, (Instr.next (.pointer (some ⟨w.heap.size, 0, none⟩)) true ty).run Tryd.prog (w.iter ⟨#[32, 9]⟩ 2) = .ok (.tuple #[.bool false]) (w.iter ⟨#[32, 9]⟩ 2) := fun ty => run_next_end (P := Tryd.prog) w ⟨#[32, 9]⟩ 2 ty (by decide)
  go_enter Tryd.func52, Tryd.ntmps52
  go_wp2
  refine wp_loop_rounds 3 ?_
  rw [rounds_succ]
  go_wp2
  rw [rounds_succ]
  go_wp2
  rw [rounds_succ]
  go_wp2
  go_ret
  exact ⟨rfl, below_iter _ _ _⟩
theorem encode_two (r : Int) (h0 : 128 ≤ r) (h1 : r ≤ 1114111) : 2 ≤ (Utf8.encode r).size ∧ (Utf8.encode r).size ≤ 4 ∧ ((Utf8.encode r).size = 2 → 128 ≤ (bAt (Utf8.encode r) 1).toNat) := by
  unfold Utf8.encode
  generalize hc : (if Utf8.valid r = true then r.toNat else Utf8.runeError) = c
  have hc1 : 128 ≤ c := by
    rw [← hc]
    split
    · omega
    · decide
  simp only
  rw [if_neg (by omega)]
  by_cases h2 : c < 0x800
  · rw [if_pos h2]
    refine ⟨Nat.le_refl 2, (show (2 : Nat) ≤ 4 by omega), fun _ => ?_⟩
    show 128 ≤ (UInt8.ofNat (0x80 + c % 64)).toNat
    rw [UInt8.toNat_ofNat']
    omega
  · rw [if_neg h2]
    by_cases h3 : c < 0x10000
    · rw [if_pos h3]
      refine ⟨?_, ?_, fun h => ?_⟩
      · show 2 ≤ 3; omega
      · show 3 ≤ 4; omega
      · have h' : 3 = 2 := h
        omega
    · rw [if_neg h3]
      refine ⟨?_, ?_, fun h => ?_⟩
      · show 2 ≤ 4; omega
      · show 4 ≤ 4; omega
      · have h' : 4 = 2 := h
        omega

theorem run_convert_rune (w : World) (r : Int) : (convert 21 9 (.int .i32 r)).run Tryd.prog w = .ok (.string (Utf8.encode r)) w := by
  simp [convert, run_underlying Tryd.underlying21, run_underlying Tryd.underlying9, Conv.intToString, Result.andThen]

set_option maxHeartbeats 400000 in
set_option maxRecDepth 100000 in
theorem rune52_cs (cs : ByteArray) (hcs : cs.size = 2) (hc9 : (bAt cs 1).toNat = 9) (r : Int) (w : World) (h0 : 128 ≤ r) (h1 : r ≤ 1114111) (hne : r ≠ 65533) :
    Calls Tryd.prog 52 #[.string cs, .int .i32 r] w fun e w' => e = .returned (.int .i64 (-1)) ∧ Below w.heap.size w w' := by
  obtain ⟨z2, z4, zb⟩ := encode_two r h0 h1
  have kc := fun W => run_convert_rune W r
  generalize Utf8.encode r = E at z2 z4 zb kc
  have hr0 : decide (r < 128) = false := decide_eq_false (by omega)
  have hr1 : (r == 65533) = false := beq_eq_false_iff_ne.2 hne
  clear hne
  have HV := hide (fun W => Tryd.utf8_ValidRune r W)
  generalize Lib.validRune r = v at HV
  go_enter Tryd.func52, Tryd.ntmps52
  go_wp2_with fail
  refine (HV.out _).mono ?_
  rintro e w' ⟨rfl, hw⟩
  subst hw
  cases v with
  | false =>
    go_wp2
    go_ret
    exact ⟨rfl, Below.refl _ _⟩
  | true =>
    by_cases hz : E.size = 2
    · have hb := zb hz
      rw [bAt_eq (by omega : 1 < E.size)] at hb
      have h1E : 1 < E.size := by omega
      have h1c : 1 < cs.size := by omega
      have hne1 : ((cs[1].toNat : Int) != (E[1].toNat : Int)) = true := by
        rw [bAt_eq h1c] at hc9
        rw [bne_iff_ne]
        omega
      have HIx : ∀ W, Calls Tryd.prog 63 #[.string ByteArray.empty, .int .u8 (E[1].toNat : Int)] W fun e w' => e = .returned (.int .i64 (-1)) ∧ w' = W := fun W => Tryd.strings_IndexByte ByteArray.empty (E[1].toNat : Int) W
      have HI := hide HIx
      clear zb HIx hc9
      go_wp2
      go_step3
      go_wp2
      refine wp_loop_rounds 1 ?_
      rw [rounds_succ]
      go_wp2
      go_step3
      go_wp2
      go_quiet (fail)
      go_wp2
      have hB2 : Below w'.heap.size w' (w'.drewN nq) := below_drewN (Below.refl _ _) nq
      have HB2 := hide hB2
      clear hB2
      generalize w'.drewN nq = w2 at HB2 ⊢
      go_quiet ((go_at_call 63; exact Calls.quiet_of_same (HI.out _)))
      go_wp2
      rw [Exit.noGoto_ret]
      go_wp2
      rw [Exit.noGoto_ret]
      go_ret
      exact ⟨rfl, below_drewN HB2.out _⟩
    · clear zb
      have hd : decide ((E.size : Int) - 1 < 2) = false := decide_eq_false (by omega)
      go_wp2
      go_step3
      go_wp2
      refine wp_loop_rounds 1 ?_
      rw [rounds_succ]
      go_wp2
      rw [Exit.noGoto_ret]
      go_ret
      exact ⟨rfl, Below.refl _ _⟩

/-- IndexRune in the two blanks, of whatever rune that a text can hold. -/
theorem rune52 (r : Nat) (w : World) (h : r ≤ 1114111) :
    Calls Tryd.prog 52 #[.string ⟨#[32, 9]⟩, .int .i32 r] w fun e w' => (∃ m : Int, e = .returned (.int .i64 m) ∧ (0 ≤ m ↔ (r = 32 ∨ r = 9))) ∧ Below w.heap.size w w' := by
  by_cases hlt : r < 128
  · have h1 := Tryd.strings_IndexRune_ascii ⟨#[32, 9]⟩ (r : Int) w (by omega) (by omega)
    refine h1.mono ?_
    rintro e w' ⟨rfl, rfl⟩
    refine ⟨⟨_, rfl, ?_⟩, Below.refl _ _⟩
    have e : (r : Int).toNat.toUInt8 = UInt8.ofNat r := rfl
    rw [e]
    have key : ∀ k : Fin 128, (0 ≤ Lib.indexByte (⟨#[32, 9]⟩ : ByteArray).data.toList (UInt8.ofNat k.val)) ↔ (k.val = 32 ∨ k.val = 9) := by decide
    exact key ⟨r, hlt⟩
  · by_cases he : r = 65533
    · subst he
      refine (rune52_err w).mono ?_
      rintro e w' ⟨rfl, hb⟩
      exact ⟨⟨_, rfl, by omega⟩, hb⟩
    · refine (rune52_cs ⟨#[32, 9]⟩ rfl rfl (r : Int) w (by omega) (by omega) (by omega)).mono ?_
      rintro e w' ⟨rfl, hb⟩
      exact ⟨⟨_, rfl, by omega⟩, hb⟩

theorem anyFrom (l : List UInt8) : Lib.indexAny l [32, 9] = if (l.takeWhile fun c => !blankB c).length < l.length then ((l.takeWhile fun c => !blankB c).length : Int) else -1 := by
  induction l with
  | nil => rfl
  | cons c r ih =>
    unfold Lib.indexAny
    rw [blank_contains, ih]
    by_cases hb : blankB c = true
    · rw [if_pos hb, List.takeWhile_cons_of_neg (by simp [hb])]
      rfl
    · rw [if_neg hb, List.takeWhile_cons_of_pos (by simpa using hb), List.length_cons, List.length_cons]
      generalize (r.takeWhile fun c => !blankB c).length = m
      by_cases h : m < r.length
      · rw [if_pos h, if_neg (show ¬ ((m : Int) == -1) = true by rw [beq_iff_eq]; omega), if_pos (show m + 1 < r.length + 1 by omega)]
        rfl
      · rw [if_neg h, if_pos (show ((-1 : Int) == -1) = true by decide), if_neg (show ¬ m + 1 < r.length + 1 by omega)]

/-- A text that ends in a blank: the first blank's place. -/
theorem any_sp (s : ByteArray) : Lib.indexAny (s ++ spS).data.toList [32, 9] = (keyLen s : Int) := by
  have e : (s ++ spS).data.toList = s.data.toList ++ [32] := by rw [ByteArray.data_append, Array.toList_append]; rfl
  rw [anyFrom, e]
  have e2 : ((s.data.toList ++ [32]).takeWhile fun c => !blankB c) = s.data.toList.takeWhile fun c => !blankB c := by
    rw [List.takeWhile_append]
    split
    · rename_i h
      rw [List.takeWhile_cons_of_neg (by decide), List.append_nil]
      exact ((List.takeWhile_prefix _).eq_of_length h).symm
    · rfl
  rw [e2, if_pos]
  · rfl
  · have := keyLen_le s
    unfold keyLen at this
    rw [List.length_append, List.length_singleton, size_list]
    omega
end Go.Proofs.YtllocmgmilllaaaDoor
