/- The reference's small functions on strings: is a byte a blank; a text without the blanks about it; a value's pieces in one. -/
import Derived.Test.YtllocmgmilllaaaDoorSpecL
namespace Go.Proofs.YtllocmgmilllaaaDoor
open Go.RowKit

theorem blank_int (c : UInt8) : blankB c = (((c.toNat : Int) == 32) || ((c.toNat : Int) == 9)) := by
  unfold blankB
  rw [Bool.eq_iff_iff]
  simp only [Bool.or_eq_true, beq_iff_eq]
  constructor
  · rintro (rfl | rfl)
    · exact .inl rfl
    · exact .inr rfl
  · rintro (h | h)
    · exact .inl (UInt8.toNat_inj.1 (by show c.toNat = 32; omega))
    · exact .inr (UInt8.toNat_inj.1 (by show c.toNat = 9; omega))

set_option maxHeartbeats 400000 in
theorem blank25_any (c : Int) (w : World) (h0 : 0 ≤ c) (h1 : c ≤ 255) :
    Calls Tryd.prog 25 #[.int .u8 c] w fun e w' => e = .returned (.bool ((c == 32) || (c == 9))) ∧ w = w' := by
  by_cases h : c = 32
  · subst h
    go_enter Tryd.func25, Tryd.ntmps25
    go_wp2
    go_ret
    exact ⟨rfl, rfl⟩
  · have hb : (c == 32) = false := beq_eq_false_iff_ne.2 h
    go_enter Tryd.func25, Tryd.ntmps25
    go_wp2
    go_ret
    exact ⟨by rw [hb]; rfl, rfl⟩

theorem blank25 (c : UInt8) (b : Bool) (w : World) (h : blankB c = b) :
    Calls Tryd.prog 25 #[.int .u8 c.toNat] w fun e w' => e = .returned (.bool b) ∧ w = w' := by
  subst h
  rw [blank_int]
  exact blank25_any _ w (u8_bd c).1 (u8_bd c).2

theorem blank_contains (c : UInt8) : ([32, 9] : List UInt8).contains c = blankB c := by
  unfold blankB
  rw [Bool.eq_iff_iff]
  simp

theorem tl_step {t : ByteArray} (h : 0 < t.size) (hb : blankB (bAt t 0) = true) : Lib.trimLeftS t.data.toList [32, 9] = Lib.trimLeftS (t.extract 1 t.size).data.toList [32, 9] := by
  rw [Lib.extract_to_end]
  have e := drop_at h
  rw [List.drop_zero] at e
  rw [e]
  unfold Lib.trimLeftS
  rw [List.dropWhile_cons_of_pos (by rw [blank_contains]; exact hb)]
  rfl
theorem tl_end {t : ByteArray} (h : ¬ (0 < t.size ∧ blankB (bAt t 0) = true)) : Lib.trimLeftS t.data.toList [32, 9] = t.data.toList := by
  by_cases h0 : 0 < t.size
  · have e := drop_at h0
    rw [List.drop_zero] at e
    rw [e]
    unfold Lib.trimLeftS
    rw [List.dropWhile_cons_of_neg (by rw [blank_contains]; exact fun hb => h ⟨h0, hb⟩)]
  · have : t.data.toList = [] := List.length_eq_zero_iff.1 (by rw [size_list]; omega)
    rw [this]
    rfl
theorem last_at {t : ByteArray} (h : 0 < t.size) : t.data.toList = t.data.toList.take (t.size - 1) ++ [bAt t (t.size - 1)] := by
  have h1 : t.size - 1 < t.data.toList.length := by rw [size_list]; omega
  have e : t.data.toList.take (t.size - 1 + 1) = t.data.toList := by rw [List.take_of_length_le]; rw [size_list]; omega
  rw [List.take_succ_eq_append_getElem h1] at e
  conv => lhs; rw [← e]
  congr 2
  unfold bAt
  rw [List.getD_eq_getElem?_getD, List.getElem?_eq_getElem h1]
  rfl
theorem tr_step {t : ByteArray} (h : 0 < t.size) (hb : blankB (bAt t (t.size - 1)) = true) : Lib.trimRightS t.data.toList [32, 9] = Lib.trimRightS (t.extract 0 (t.size - 1)).data.toList [32, 9] := by
  rw [Lib.extract_data, List.drop_zero, Nat.sub_zero]
  conv => lhs; rw [last_at h]
  unfold Lib.trimRightS
  rw [List.reverse_append, List.reverse_singleton, List.singleton_append, List.dropWhile_cons_of_pos (by rw [blank_contains]; exact hb)]
theorem tr_end {t : ByteArray} (h : ¬ (0 < t.size ∧ blankB (bAt t (t.size - 1)) = true)) : Lib.trimRightS t.data.toList [32, 9] = t.data.toList := by
  by_cases h0 : 0 < t.size
  · conv => lhs; rw [last_at h0]
    unfold Lib.trimRightS
    rw [List.reverse_append, List.reverse_singleton, List.singleton_append, List.dropWhile_cons_of_neg (by rw [blank_contains]; exact fun hb => h ⟨h0, hb⟩)]
    rw [List.reverse_cons, List.reverse_reverse]
    exact (last_at h0).symm
  · have : t.data.toList = [] := List.length_eq_zero_iff.1 (by rw [size_list]; omega)
    rw [this]
    rfl

set_option maxHeartbeats 400000 in
set_option maxRecDepth 100000 in
theorem trim24 (s : ByteArray) (w : World) (hs : s.size ≤ maxLen) :
    Calls Tryd.prog 24 #[.string s] w fun e w' => e = .returned (.string (trimB s)) ∧ w = w' := by
  unfold maxLen at hs
  go_enter Tryd.func24, Tryd.ntmps24
  go_wp2
  go_loop [0] (fun v => ∃ t : ByteArray, v = .string t ∧ t.size ≤ s.size ∧ Hid (Lib.trimLeftS t.data.toList [32, 9] = Lib.trimLeftS s.data.toList [32, 9])) (fun v => match v with | .string t => t.size | _ => 0)
  case atStart => exact ⟨s, rfl, Nat.le_refl _, rfl⟩
  case round =>
    obtain ⟨t, rfl, hle, HT⟩ := hrel
    by_cases h0 : 0 < t.size
    · have hd0 : decide (0 < t.size) = true := decide_eq_true h0
      by_cases hb : blankB (bAt t 0) = true
      · have HN : Hid (Lib.trimLeftS (t.extract 1 t.size).data.toList [32, 9] = Lib.trimLeftS s.data.toList [32, 9]) := (tl_step h0 hb).symm.trans HT.out
        have hc : blankB t[0] = true := by rw [← bAt_eq h0]; exact hb
        have HC := hide (blank25 t[0] true w hc)
        clear hb hc HT
        go_wp2_with (go_at_call 25; refine (HC.out).mono ?_; rintro e w' ⟨rfl, rfl⟩)
        go_round
        case rel => exact ⟨_, rfl, by rw [ByteArray.size_extract]; omega, HN.out⟩
        case measure => simp only [ByteArray.size_extract]; omega
      · have hc : blankB t[0] = false := by rw [← bAt_eq h0]; simpa using hb
        have HC := hide (blank25 t[0] false w hc)
        have HE : Hid (t.data.toList = Lib.trimLeftS s.data.toList [32, 9]) := (tl_end (fun h => hb h.2)).symm.trans HT.out
        clear hb hc HT
        go_wp2_with (go_at_call 25; refine (HC.out).mono ?_; rintro e w' ⟨rfl, rfl⟩)
        go_loop [0] (fun v => ∃ u : ByteArray, v = .string u ∧ u.size ≤ t.size ∧ Hid (Lib.trimRightS u.data.toList [32, 9] = (trimB s).data.toList)) (fun v => match v with | .string u => u.size | _ => 0)
        case atStart => exact ⟨t, rfl, Nat.le_refl _, by rw [HE.out]; exact (trim_comm _ _).symm⟩
        case round =>
          obtain ⟨u, rfl, hle2, HU⟩ := hrel
          by_cases g0 : 0 < u.size
          · have gd0 : decide (0 < u.size) = true := decide_eq_true g0
            have gi : u.size - 1 < u.size := by omega
            by_cases gb : blankB (bAt u (u.size - 1)) = true
            · have HN : Hid (Lib.trimRightS (u.extract 0 (u.size - 1)).data.toList [32, 9] = (trimB s).data.toList) := (tr_step g0 gb).symm.trans HU.out
              have gc : blankB u[u.size - 1] = true := by rw [← bAt_eq gi]; exact gb
              have GC := hide (blank25 u[u.size - 1] true w gc)
              clear gb gc HU
              go_wp2_with (go_at_call 25; refine (GC.out).mono ?_; rintro e w' ⟨rfl, rfl⟩)
              go_round
              case rel => exact ⟨_, rfl, by rw [ByteArray.size_extract]; omega, HN.out⟩
              case measure => simp only [ByteArray.size_extract]; omega
            · have gc : blankB u[u.size - 1] = false := by rw [← bAt_eq gi]; simpa using gb
              have GC := hide (blank25 u[u.size - 1] false w gc)
              have GE : Hid (u.data.toList = (trimB s).data.toList) := (tr_end (fun h => gb h.2)).symm.trans HU.out
              clear gb gc HU
              go_wp2_with (go_at_call 25; refine (GC.out).mono ?_; rintro e w' ⟨rfl, rfl⟩)
              go_ret
              exact ⟨congrArg (fun x => Ending.returned (.string x)) (ba_ext GE.out), rfl⟩
          · have gd0 : decide (0 < u.size) = false := decide_eq_false g0
            have GE : Hid (u.data.toList = (trimB s).data.toList) := (tr_end (fun h => g0 h.1)).symm.trans HU.out
            go_wp2
            go_ret
            exact ⟨congrArg (fun x => Ending.returned (.string x)) (ba_ext GE.out), rfl⟩
    · have hd0 : decide (0 < t.size) = false := decide_eq_false h0
      have HE : Hid (t.data.toList = Lib.trimLeftS s.data.toList [32, 9]) := (tl_end (fun h => h0 h.1)).symm.trans HT.out
      go_wp2
      go_loop [0] (fun v => ∃ u : ByteArray, v = .string u ∧ u.size ≤ t.size ∧ Hid (Lib.trimRightS u.data.toList [32, 9] = (trimB s).data.toList)) (fun v => match v with | .string u => u.size | _ => 0)
      case atStart => exact ⟨t, rfl, Nat.le_refl _, by rw [HE.out]; exact (trim_comm _ _).symm⟩
      case round =>
        obtain ⟨u, rfl, hle2, HU⟩ := hrel
        by_cases g0 : 0 < u.size
        · exact absurd g0 (by omega)
        · have gd0 : decide (0 < u.size) = false := decide_eq_false g0
          have GE : Hid (u.data.toList = (trimB s).data.toList) := (tr_end (fun h => g0 h.1)).symm.trans HU.out
          go_wp2
          go_ret
          exact ⟨congrArg (fun x => Ending.returned (.string x)) (ba_ext GE.out), rfl⟩

def spS : ByteArray := ⟨#[32]⟩
/-- The reference's value, piece by piece. -/
def valGo (s : ByteArray) (more : List ByteArray) : ByteArray := more.foldl (fun a x => (if a.size = 0 then a else a ++ spS) ++ x) s

theorem trimB_le (s : ByteArray) : (trimB s).size ≤ s.size := by
  unfold trimB
  rw [size_mk_list]
  unfold Lib.trimS Lib.trimLeftS Lib.trimRightS
  have h1 := (List.dropWhile_suffix (l := (List.dropWhile (([32, 9] : List UInt8).contains ·) s.data.toList.reverse).reverse) (([32, 9] : List UInt8).contains ·)).length_le
  have h2 := (List.dropWhile_suffix (l := s.data.toList.reverse) (([32, 9] : List UInt8).contains ·)).length_le
  rw [List.length_reverse] at h1 h2
  rw [size_list] at h2
  omega

def sumLen (l : List ByteArray) : Nat := (l.map fun x => x.size + 1).sum

theorem valGo_take {s : ByteArray} {more : List ByteArray} {k : Nat} (h : k < more.length) : valGo s (more.take (k + 1)) = (if (valGo s (more.take k)).size = 0 then valGo s (more.take k) else valGo s (more.take k) ++ spS) ++ more[k] := by
  unfold valGo
  rw [List.take_succ_eq_append_getElem h, List.foldl_append]
  rfl
theorem valGo_le (s : ByteArray) : ∀ more : List ByteArray, (valGo s more).size ≤ s.size + sumLen more := by
  intro more
  induction more generalizing s with
  | nil => exact Nat.le_refl _
  | cons x r ih =>
    have e : valGo s (x :: r) = valGo ((if s.size = 0 then s else s ++ spS) ++ x) r := rfl
    have h1 : ((if s.size = 0 then s else s ++ spS) ++ x).size ≤ s.size + (x.size + 1) := by
      rw [ByteArray.size_append]
      split
      · omega
      · rw [ByteArray.size_append]
        have : spS.size = 1 := rfl
        omega
    have := ih ((if s.size = 0 then s else s ++ spS) ++ x)
    rw [e]
    have e2 : sumLen (x :: r) = (x.size + 1) + sumLen r := by unfold sumLen; rw [List.map_cons, List.sum_cons]
    omega
theorem sumLen_take (l : List ByteArray) (k : Nat) : sumLen (l.take k) ≤ sumLen l := by
  conv => rhs; rw [← List.take_append_drop k l]
  unfold sumLen
  rw [List.map_append, List.sum_append]
  omega

theorem emp_list {a : ByteArray} (h : a.size = 0) : a.toList.isEmpty = true := by
  rw [ba_toList, List.isEmpty_iff, ← List.length_eq_zero_iff, size_list]
  exact h
theorem nemp_list {a : ByteArray} (h : ¬ a.size = 0) : a.toList.isEmpty = false := by
  rw [ba_toList, List.isEmpty_eq_false_iff, ne_eq, ← List.length_eq_zero_iff, size_list]
  exact h

set_option maxHeartbeats 400000 in
set_option maxRecDepth 100000 in
theorem value26 (s : ByteArray) (A : Option Addr) (cap : Nat) (l : List ByteArray) (w : World) (hs : s.size ≤ 262144) (hl : l.length ≤ 262144) (hsum : sumLen l ≤ 1000000)
    (hc : ∀ k, (h : k < l.length) → ∃ b o, A = some ⟨b, o, none⟩ ∧ w.cell? ⟨b, o + k, none⟩ = some (.string l[k])) :
    Calls Tryd.prog 26 #[.string s, .slice A l.length cap] w fun e w' => e = .returned (.string (valGo (trimB s) l)) ∧ w = w' := by
  have HC := hide hc
  clear hc
  have HT := hide (trim24 s w (by unfold maxLen; omega))
  have hz := trimB_le s
  have HV := hide (valGo_le (trimB s))
  have HS := hide (sumLen_take l)
  go_enter Tryd.func26, Tryd.ntmps26
  go_wp2_with (go_at_call 24; refine (HT.out).mono ?_; rintro e w' ⟨rfl, rfl⟩)
  go_loop [5, 6] (fun v i => ∃ k : Nat, k ≤ l.length ∧ i = .int .i64 k ∧ v = .string (valGo (trimB s) (l.take k))) (fun _ i => l.length - (intOf i).toNat)
  case atStart => exact ⟨0, Nat.zero_le _, rfl, rfl⟩
  case round =>
    obtain ⟨k, hk, rfl, rfl⟩ := hrel
    by_cases hlt : k < l.length
    · obtain ⟨b, o, rfl, hcell⟩ := HC.out k hlt
      have hx1 := HV.out (l.take k)
      have hx2 := HS.out k
      have hx3 := HV.out (l.take (k + 1))
      have hx4 := HS.out (k + 1)
      have HN := hide (valGo_take (s := trimB s) hlt)
      rw [HN.out] at hx3
      generalize valGo (trimB s) (l.take k) = a at hx1 hx3 HN ⊢
      generalize l[k] = x at hcell hx3 HN
      by_cases ha : a.size = 0
      · rw [if_pos ha] at hx3
        have hx5 := hx3
        rw [ByteArray.size_append] at hx5
        clear hx3
        have he := emp_list ha
        go_wp2
        go_round
        case rel => exact ⟨k + 1, by omega, by go_num, by rw [HN.out, if_pos ha]⟩
        case measure => simp [intOf]; omega
      · rw [if_neg ha] at hx3
        have hx5 := hx3
        rw [ByteArray.size_append, ByteArray.size_append] at hx5
        have hx6 : spS.size = 1 := rfl
        clear hx3
        have he := nemp_list ha
        go_wp2
        go_round
        case rel => exact ⟨k + 1, by omega, by go_num, by rw [HN.out, if_neg ha]; rfl⟩
        case measure => simp [intOf]; omega
    · obtain rfl : k = l.length := by omega
      have e : l.take l.length = l := List.take_length
      rw [e]
      clear e
      go_wp2
      go_ret
      exact ⟨rfl, rfl⟩
end Go.Proofs.YtllocmgmilllaaaDoor
