/- The first byte that cannot stand in a text, by the library's IndexFunc at the program's test; a text's first line by the library's Cut. -/
import Derived.Test.YtllocmgmilllaaaDoorAny
namespace Go.Proofs.YtllocmgmilllaaaDoor
open Go.RowKit

def badR (r : Nat) : Bool := decide (r ≠ 9 ∧ r ≠ 10 ∧ (r < 32 ∨ 126 < r))
theorem badR_byte (c : UInt8) : badR c.toNat = badC c := by
  rw [badC_int]
  unfold badR
  by_cases h9 : c.toNat = 9
  · rw [h9]; rfl
  · by_cases h10 : c.toNat = 10
    · rw [h10]; rfl
    · have e9 : ((c.toNat : Int) == 9) = false := beq_eq_false_iff_ne.2 (by omega)
      have e10 : ((c.toNat : Int) == 10) = false := beq_eq_false_iff_ne.2 (by omega)
      rw [e9, e10]
      by_cases h : 32 ≤ c.toNat ∧ c.toNat ≤ 126
      · rw [decide_eq_true (show 32 ≤ (c.toNat : Int) by omega), decide_eq_true (show (c.toNat : Int) ≤ 126 by omega)]
        simp
        omega
      · rw [decide_eq_true (show c.toNat ≠ 9 ∧ c.toNat ≠ 10 ∧ (c.toNat < 32 ∨ 126 < c.toNat) by omega)]
        by_cases h32 : 32 ≤ (c.toNat : Int)
        · rw [decide_eq_false (show ¬ (c.toNat : Int) ≤ 126 by omega)]
          simp
        · rw [decide_eq_false h32]
          simp

/-- A place in the form of Go's answer: n stands for none. -/
def encI (n m : Nat) : Int := if m = n then -1 else (m : Int)

theorem idx_bad (s : ByteArray) : ∀ (f pos : Nat), s.size ≤ pos + f → pos ≤ s.size →
    Lib.idxFuncFrom badR true s f pos = (if pos + ((s.data.toList.drop pos).takeWhile fun c => !badC c).length < s.size then ((pos + ((s.data.toList.drop pos).takeWhile fun c => !badC c).length : Nat) : Int) else -1) := by
  intro f
  induction f with
  | zero =>
    intro pos h1 h2
    have e : s.data.toList.drop pos = [] := List.drop_eq_nil_of_le (by rw [size_list]; omega)
    rw [e, if_neg (by simp; omega)]
    rfl
  | succ f ih =>
    intro pos h1 h2
    unfold Lib.idxFuncFrom
    by_cases hlt : pos < s.size
    · rw [if_pos hlt]
      have eb : bAt s pos = s[pos] := bAt_eq hlt
      by_cases hb : (s[pos]).toNat < 128
      · rw [decode_ascii s pos hlt hb]
        simp only
        rw [drop_at hlt, badR_byte, ← eb]
        by_cases hpp : badC (bAt s pos) = true
        · rw [if_pos hpp, List.takeWhile_cons_of_neg (by simp [hpp])]
          simp [hlt]
        · rw [if_neg hpp, List.takeWhile_cons_of_pos (by simpa using hpp), ih (pos + 1) (by omega) (by omega), List.length_cons]
          rw [show pos + 1 + ((s.data.toList.drop (pos + 1)).takeWhile fun c => !badC c).length = pos + (((s.data.toList.drop (pos + 1)).takeWhile fun c => !badC c).length + 1) from by omega]
      · obtain ⟨r1, _⟩ := decode_high s pos hlt (by omega)
        have h1 : badR (Utf8.decode s pos).1 = true := by unfold badR; exact decide_eq_true (by omega)
        have h2 : badC (bAt s pos) = true := by rw [← badR_byte, eb]; unfold badR; exact decide_eq_true (by omega)
        rw [if_pos h1, drop_at hlt, List.takeWhile_cons_of_neg (by simp [h2])]
        simp [hlt]
    · rw [if_neg hlt]
      have e : s.data.toList.drop pos = [] := List.drop_eq_nil_of_le (by rw [size_list]; omega)
      rw [e, if_neg (by simp; omega)]

theorem good_take (p : UInt8 → Bool) : ∀ (l : List UInt8) (i : Nat), i < (l.takeWhile p).length → p (l.getD i 0) = true
  | [], i, h => by simp at h
  | a :: r, i, h => by
    by_cases ha : p a = true
    · rw [List.takeWhile_cons_of_pos ha] at h
      cases i with
      | zero => exact ha
      | succ i => exact good_take p r i (by simpa using h)
    · rw [List.takeWhile_cons_of_neg ha] at h
      simp at h
theorem bad_take (p : UInt8 → Bool) : ∀ (l : List UInt8), (l.takeWhile p).length < l.length → p (l.getD (l.takeWhile p).length 0) = false
  | [], h => by simp at h
  | a :: r, h => by
    by_cases ha : p a = true
    · rw [List.takeWhile_cons_of_pos ha] at h ⊢
      exact bad_take p r (by simpa using h)
    · rw [List.takeWhile_cons_of_neg ha]
      simpa using ha

theorem badFrom_none (s : ByteArray) (n : Nat) (h : ∀ i, i < n → badC (bAt s i) = false) : badFrom s n = [] := by
  induction n with
  | zero => rfl
  | succ n ih => rw [badFrom_succ, h n (by omega), ih (fun i hi => h i (by omega))]; rfl
theorem minF_first (s : ByteArray) (N t : Nat) (hN : t < N) (h : ∀ i, i < t → badC (bAt s i) = false) (ht : badC (bAt s t) = true) : ∀ n, t < n → minF N (badFrom s n) = t := by
  intro n
  induction n with
  | zero => intro h'; omega
  | succ n ih =>
    intro h'
    rw [badFrom_succ]
    by_cases hn : n = t
    · subst hn
      rw [if_pos ht, badFrom_none s n h, minF_snoc]
      show (if n < N then n else N) = n
      rw [if_pos hN]
    · split
      · rw [minF_snoc, ih (by omega), if_neg (by omega)]
      · exact ih (by omega)

theorem idx_minF (s : ByteArray) : Lib.idxFunc badR true s = encI (s.size + 1) (minF (s.size + 1) (badFrom s s.size)) := by
  unfold Lib.idxFunc
  rw [idx_bad s s.size 0 (by omega) (Nat.zero_le _), List.drop_zero, Nat.zero_add]
  have hg := good_take (fun c => !badC c) s.data.toList
  have hb := bad_take (fun c => !badC c) s.data.toList
  rw [size_list] at hb
  generalize (s.data.toList.takeWhile fun c => !badC c).length = t at hg hb
  have hg' : ∀ i, i < t → badC (bAt s i) = false := fun i hi => by have := hg i hi; rw [Bool.not_eq_true'] at this; exact this
  have hb' : t < s.size → badC (bAt s t) = true := fun h => by have := hb h; rw [Bool.not_eq_false'] at this; exact this
  by_cases h : t < s.size
  · rw [if_pos h, minF_first s (s.size + 1) t (by omega) hg' (hb' h) s.size h]
    unfold encI
    rw [if_neg (by omega)]
  · rw [if_neg h, badFrom_none s s.size (fun i hi => hg' i (by omega))]
    exact (if_pos rfl).symm

set_option maxHeartbeats 400000 in
theorem cut29 (r : Nat) (w : World) :
    Calls Tryd.prog 29 #[.int .i32 r] w fun e w' => e = .returned (.bool (badR r)) ∧ w = w' := by
  by_cases h9 : r = 9
  · subst h9
    go_enter Tryd.func29, Tryd.ntmps29
    go_wp2
    go_ret
    exact ⟨rfl, rfl⟩
  · by_cases h10 : r = 10
    · subst h10
      go_enter Tryd.func29, Tryd.ntmps29
      go_wp2
      go_ret
      exact ⟨rfl, rfl⟩
    · have e9 : ((r : Int) != 9) = true := bne_iff_ne.2 (by omega)
      have e10 : ((r : Int) != 10) = true := bne_iff_ne.2 (by omega)
      by_cases h32 : (r : Int) < 32
      · have HQ : Hid (badR r = true) := decide_eq_true (by omega)
        have d32 : decide ((r : Int) < 32) = true := decide_eq_true h32
        clear h9 h10
        go_enter Tryd.func29, Tryd.ntmps29
        go_wp2
        go_ret
        exact ⟨by rw [HQ.out]; rfl, rfl⟩
      · have d32 : decide ((r : Int) < 32) = false := decide_eq_false h32
        by_cases h126 : 126 < (r : Int)
        · have HQ : Hid (badR r = true) := decide_eq_true (by omega)
          have d126 : decide (126 < (r : Int)) = true := decide_eq_true h126
          clear h9 h10
          go_enter Tryd.func29, Tryd.ntmps29
          go_wp2
          go_ret
          exact ⟨by rw [HQ.out]; rfl, rfl⟩
        · have HQ : Hid (badR r = false) := decide_eq_false (by omega)
          have d126 : decide (126 < (r : Int)) = false := decide_eq_false h126
          clear h9 h10
          go_enter Tryd.func29, Tryd.ntmps29
          go_wp2
          go_ret
          exact ⟨by rw [HQ.out]; rfl, rfl⟩

theorem first28 (s : ByteArray) (w : World) :
    Calls Tryd.prog 28 #[.string s, .func (.func 29) #[] #[]] w fun e w' => e = .returned (.int .i64 (encI (s.size + 1) (minF (s.size + 1) (badFrom s s.size)))) ∧ Below w.heap.size w w' := by
  rw [← idx_minF]
  refine Tryd.strings_IndexFunc 29 #[] (Go.Proofs.enters_of Tryd.func29 (by kernel_rfl) rfl) badR s w (fun W x _ => ?_)
  exact (cut29 x W).mono fun e w' ⟨he, hw⟩ => ⟨he, 0, hw.symm⟩

theorem indexByte_nl (l : List UInt8) : Lib.indexByte l 10 = if (l.takeWhile (· != 10)).length < l.length then ((l.takeWhile (· != 10)).length : Int) else -1 := by
  induction l with
  | nil => rfl
  | cons c r ih =>
    unfold Lib.indexByte
    by_cases hb : c = 10
    · rw [if_pos (by simpa using hb), List.takeWhile_cons_of_neg (by simp [hb])]
      rfl
    · rw [if_neg (by simpa using hb), List.takeWhile_cons_of_pos (by simpa using hb), List.length_cons, List.length_cons, ih]
      generalize (r.takeWhile (· != 10)).length = m
      by_cases h : m < r.length
      · rw [if_pos h, if_neg (show ¬ ((m : Int) == -1) = true by rw [beq_iff_eq]; omega), if_pos (show m + 1 < r.length + 1 by omega)]
        rfl
      · rw [if_neg h, if_pos (show ((-1 : Int) == -1) = true by decide), if_neg (show ¬ m + 1 < r.length + 1 by omega)]

theorem lineLen (s : ByteArray) (i : Nat) : (s.extract i (endOf s i)) = (s.extract i s.size).extract 0 (((s.extract i s.size).data.toList.takeWhile (· != 10)).length) := by
  apply ba_ext
  rw [Lib.extract_data, Lib.extract_data, Lib.extract_to_end, List.drop_zero, Nat.sub_zero]
  unfold endOf
  rw [Nat.add_sub_cancel_left]

set_option maxHeartbeats 400000 in
theorem cut44 (s : ByteArray) (w : World) (hs : s.size ≤ 262144) :
    Calls Tryd.prog 44 #[.string s, .string ⟨#[10]⟩] w fun e w' => ∃ (u : ByteArray) (b : Bool), e = .returned (.tuple #[.string (s.extract 0 ((s.data.toList.takeWhile (· != 10)).length)), .string u, .bool b]) ∧ Below w.heap.size w w' := by
  have HI := hide (fun W => Tryd.stringslite_Index_one s 10 W)
  rw [indexByte_nl, size_list] at HI
  have hle : (s.data.toList.takeWhile (· != 10)).length ≤ s.size := by
    have := (List.takeWhile_prefix (l := s.data.toList) (· != 10)).length_le
    rw [size_list] at this
    exact this
  generalize (s.data.toList.takeWhile (· != 10)).length = m at HI hle ⊢
  by_cases h : m < s.size
  · rw [if_pos h] at HI
    go_enter Tryd.func44, Tryd.ntmps44
    go_wp2_with fail
    refine (HI.out _).mono ?_
    rintro e w' ⟨rfl, hw⟩
    subst hw
    go_wp2
    go_quiet (fail)
    go_wp2
    go_ret3
    exact ⟨_, _, rfl, below_drewN (Below.refl _ _) _⟩
  · rw [if_neg h] at HI
    have e : s.extract 0 m = s := by
      apply ba_ext
      rw [Lib.extract_data, List.drop_zero, Nat.sub_zero, List.take_of_length_le (by rw [size_list]; omega)]
    rw [e]
    go_enter Tryd.func44, Tryd.ntmps44
    go_wp2_with fail
    refine (HI.out _).mono ?_
    rintro e w' ⟨rfl, hw⟩
    subst hw
    go_wp2
    go_ret3
    exact ⟨_, _, rfl, Below.refl _ _⟩

set_option maxHeartbeats 400000 in
theorem cut30 (s : ByteArray) (w : World) (hs : s.size ≤ 262144) :
    Calls Tryd.prog 30 #[.string s, .string ⟨#[10]⟩] w fun e w' => ∃ (u : ByteArray) (b : Bool), e = .returned (.tuple #[.string (s.extract 0 ((s.data.toList.takeWhile (· != 10)).length)), .string u, .bool b]) ∧ Below w.heap.size w w' := by
  have HI := hide (cut44 s w hs)
  generalize s.extract 0 ((s.data.toList.takeWhile (· != 10)).length) = t at HI ⊢
  go_enter Tryd.func30, Tryd.ntmps30
  go_wp2_with fail
  refine (HI.out).mono ?_
  rintro e w' ⟨u, b, rfl, hb⟩
  have HB := hide hb
  clear hb
  go_wp2
  go_ret3
  exact ⟨_, _, rfl, HB.out⟩
end Go.Proofs.YtllocmgmilllaaaDoor
