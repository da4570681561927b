/- The two 'lower's of the program and of the reference turn A to Z into a to z; nothing that was there is changed. -/
import Derived.Test.YtllocmgmilllaaaDoorRows
import Derived.WalkKit
import Derived.WalkSpells
import Derived.WalkLawsBesides
import Derived.Laws.IdiomStrings
namespace Go.Proofs.YtllocmgmilllaaaDoor
open Go.RowKit

theorem hide {p : Prop} (h : p) : Hid p := h

def lowB (c : UInt8) : UInt8 := if 65 ≤ c ∧ c ≤ 90 then c + 32 else c
def lowS (s : ByteArray) : ByteArray := ⟨(s.data.toList.map lowB).toArray⟩

/-- Byte j of s (0 behind its end). -/
def bAt (s : ByteArray) (j : Nat) : UInt8 := s.data.toList.getD j 0
theorem bAt_eq {s : ByteArray} {j : Nat} (h : j < s.size) : bAt s j = s[j] := by
  have h' : j < s.data.size := h
  unfold bAt
  rw [List.getD_eq_getElem?_getD, Array.getElem?_toList, Array.getElem?_eq_getElem h']
  rfl
theorem size_list (s : ByteArray) : s.data.toList.length = s.size := by rw [Array.length_toList]; rfl
theorem size_mk_list (l : List UInt8) : (⟨l.toArray⟩ : ByteArray).size = l.length := by show l.toArray.size = _; rw [List.size_toArray]

def lowZ (s : ByteArray) (k j : Nat) : Int := ((if j < k then lowB (bAt s j) else bAt s j).toNat : Int)

/-- The bytes of s, the first k of them lowered, in the row at block B. -/
def LowAt (s : ByteArray) (B k : Nat) (w : World) : Prop :=
  ∃ cs m, w.heap[B]? = some (.cells cs 5 (m, m + 1)) ∧ s.size ≤ m ∧ ∀ j, j < s.size → cs[j]? = some (.int .u8 (lowZ s k j))

theorem low_cell {s : ByteArray} {B k : Nat} {w : World} (h : LowAt s B k w) (j : Nat) (hj : j < s.size) : w.cell? ⟨B, j, none⟩ = some (.int .u8 (lowZ s k j)) ∧ w.frozen? ⟨B, j, none⟩ = false := by
  obtain ⟨cs, m, hb, hm, hc⟩ := h
  refine ⟨?_, ?_⟩
  · simp [World.cell?, hb, hc j hj]
  · simp [World.frozen?, hb]
    omega

theorem heap_setCell_at (w : World) (g i : Nat) (cs : Array Value) (t : TypeId) (fr : Nat × Nat) (v : Value) (hg : w.heap[g]? = some (.cells cs t fr)) :
    (w.setCell ⟨g, i, none⟩ v).heap[g]? = some (.cells (cs.setIfInBounds i v) t fr) := by
  rw [setCell_eq_setRow w g i cs t fr v hg]
  exact setRow_heap w g cs _ t _ hg

theorem low_start (s : ByteArray) (w : World) (B cap : Nat) (hB : B = w.heap.size) : LowAt s B 0 (w.alloc (.cells (bytesRow s cap) 5 ((bytesRow s cap).size, (bytesRow s cap).size + 1))) := by
  subst hB
  refine ⟨bytesRow s cap, (bytesRow s cap).size, ?_, ?_, fun j hj => ?_⟩
  · show (w.heap.push _)[w.heap.size]? = _
    simp
  · unfold bytesRow ByteArray.size
    rw [Array.size_append, Array.size_map]
    exact Nat.le_add_right _ _
  · have hj' : j < s.data.size := hj
    rw [bytesRow_at s cap j hj']
    have e : bAt s j = s.data[j] := bAt_eq hj
    unfold lowZ
    rw [if_neg (by omega), e]

theorem low_kept {s : ByteArray} {B k : Nat} {w : World} (h : LowAt s B k w) (hk : lowB (bAt s k) = bAt s k) : LowAt s B (k + 1) w := by
  obtain ⟨cs, m, hb, hm, hc⟩ := h
  refine ⟨cs, m, hb, hm, fun j hj => ?_⟩
  rw [hc j hj]
  unfold lowZ
  by_cases e : j = k
  · subst e
    rw [if_neg (by omega), if_pos (by omega), hk]
  · by_cases l : j < k
    · rw [if_pos l, if_pos (by omega)]
    · rw [if_neg l, if_neg (by omega)]

theorem low_set {s : ByteArray} {B k : Nat} {w : World} (h : LowAt s B k w) (hks : k < s.size) (x : Int) (hk : ((lowB (bAt s k)).toNat : Int) = x) : LowAt s B (k + 1) (w.setCell ⟨B, k, none⟩ (.int .u8 x)) := by
  obtain ⟨cs, m, hb, hm, hc⟩ := h
  refine ⟨_, m, heap_setCell_at w B k cs 5 _ _ hb, hm, fun j hj => ?_⟩
  have hlen : k < cs.size := by
    have := hc k hks
    exact (Array.getElem?_eq_some_iff.1 this).1
  rw [Array.getElem?_setIfInBounds]
  by_cases e : k = j
  · subst e
    rw [if_pos rfl, if_pos hlen]
    unfold lowZ
    rw [if_pos (by omega), hk]
  · rw [if_neg e, hc j hj]
    unfold lowZ
    by_cases l : j < k
    · rw [if_pos l, if_pos (by omega)]
    · rw [if_neg l, if_neg (by omega)]

theorem low_drew {s : ByteArray} {B k : Nat} {w : World} (h : LowAt s B k w) : LowAt s B k w.drew := h

theorem lowZ_self (s : ByteArray) (k : Nat) : lowZ s k k = ((bAt s k).toNat : Int) := by unfold lowZ; rw [if_neg (by omega)]
theorem u8_bd (c : UInt8) : 0 ≤ (c.toNat : Int) ∧ (c.toNat : Int) ≤ 255 := by have := c.toNat_lt; omega
theorem lowB_up (c : UInt8) (h1 : 65 ≤ (c.toNat : Int)) (h2 : (c.toNat : Int) ≤ 90) : ((lowB c).toNat : Int) = (c.toNat : Int) + 32 := by
  unfold lowB
  rw [if_pos (by simp only [UInt8.le_iff_toNat_le]; exact ⟨by simpa using by omega, by simpa using by omega⟩)]
  rw [UInt8.toNat_add]
  simp
  omega
theorem lowB_no (c : UInt8) (h : ¬ (65 ≤ (c.toNat : Int) ∧ (c.toNat : Int) ≤ 90)) : lowB c = c := by
  unfold lowB
  rw [if_neg (by
    simp only [UInt8.le_iff_toNat_le]
    rintro ⟨a, b⟩
    have a' : 65 ≤ c.toNat := by simpa using a
    have b' : c.toNat ≤ 90 := by simpa using b
    omega)]

theorem low_conv {s : ByteArray} {B : Nat} {w : World} (h : LowAt s B s.size w) (cap : Nat) : (convert 80 9 (.slice (some ⟨B, 0, none⟩) s.size cap)).run Tryd.prog w = .ok (.string (lowS s)) w := by
  have := run_convert_bytes_arg (P := Tryd.prog) w 80 5 Tryd.underlying80 Tryd.underlying5 B 0 s.size cap ((s.data.toList.map fun c => ((lowB c).toNat : Int))) (by rw [List.length_map, size_list]) (fun i hi => by
    have hc := (low_cell h i hi).1
    rw [Nat.zero_add, hc]
    unfold lowZ
    rw [if_pos hi]
    have hi' : i < s.data.size := hi
    have e : bAt s i = s.data[i] := bAt_eq hi
    rw [e, List.getD_eq_getElem?_getD, List.getElem?_map, Array.getElem?_toList, Array.getElem?_eq_getElem hi']
    rfl) 9 Tryd.underlying9
  rw [this]
  have e2 : strOfNums (s.data.toList.map fun c => ((lowB c).toNat : Int)) = lowS s := by
    unfold strOfNums lowS
    rw [List.map_map]
    rw [show (s.data.toList.map ((fun n : Int => UInt8.ofNat n.toNat) ∘ fun c => ((lowB c).toNat : Int))) = s.data.toList.map lowB from List.map_congr_left fun c _ => by
      show UInt8.ofNat ((lowB c).toNat : Int).toNat = lowB c
      rw [Int.toNat_natCast, UInt8.ofNat_toNat]]
  rw [e2]

theorem lowS_size (s : ByteArray) : (lowS s).size = s.size := by unfold lowS; rw [size_mk_list, List.length_map, size_list]

set_option maxHeartbeats 400000 in
theorem lower23 (s : ByteArray) (w : World) (hs : s.size ≤ maxLen) :
    Calls Tryd.prog 23 #[.string s] w fun e w' => e = .returned (.string (lowS s)) ∧ Below w.heap.size w w' := by
  unfold maxLen at hs
  have kc := fun (w : World) => run_bytes_of_string (P := Tryd.prog) w 9 80 5 s Tryd.underlying9 Tryd.underlying80 Tryd.underlying5
  go_enter Tryd.func23, Tryd.ntmps23
  go_wp2
  clear kc
  go_loopw [10] (fun i wr => ∃ k : Nat, k ≤ s.size ∧ i = .int .i64 k ∧ LowAt s w.heap.size k wr ∧ Below w.heap.size w wr) (fun i _ => s.size - (intOf i).toNat)
  case atStart => exact ⟨0, Nat.zero_le _, rfl, low_drew (low_start s w _ _ rfl), ((Below.refl _ _).alloc (Nat.le_refl _) _).drew⟩
  case round =>
    obtain ⟨k, hk, rfl, hl, hb⟩ := hrel
    by_cases hlt : k < s.size
    · obtain ⟨hc, hf⟩ := low_cell hl k hlt
      rw [lowZ_self] at hc
      obtain ⟨hb0, hb1⟩ := u8_bd (bAt s k)
      have HL := hide hl
      clear hl
      have HB := hide hb
      clear hb
      go_wp2
      all_goals
        go_roundw
        case rel => first
          | exact ⟨k + 1, by omega, by go_num, low_set HL.out hlt _ (by have := lowB_up (bAt s k) (by assumption) (by assumption); omega), HB.out.setCell (Nat.le_refl _) _⟩
          | exact ⟨k + 1, by omega, by go_num, low_kept HL.out (lowB_no _ (by omega)), HB.out⟩
        case measure => simp [intOf]; omega
    · obtain rfl : k = s.size := by omega
      have kc2 := low_conv hl (grownCap w s.size 0 5)
      have HB := hide hb
      clear hb hl
      go_wp2
      go_ret
      exact ⟨rfl, HB.out⟩
set_option maxHeartbeats 400000 in
theorem lower27 (s : ByteArray) (w : World) (hs : s.size ≤ maxLen) :
    Calls Tryd.prog 27 #[.string s] w fun e w' => e = .returned (.string (lowS s)) ∧ Below w.heap.size w w' := by
  unfold maxLen at hs
  have kc := fun (w : World) => run_bytes_of_string (P := Tryd.prog) w 9 80 5 s Tryd.underlying9 Tryd.underlying80 Tryd.underlying5
  go_enter Tryd.func27, Tryd.ntmps27
  go_wp2
  clear kc
  go_loopw [4] (fun i wr => ∃ k : Nat, k ≤ s.size ∧ i = .int .i64 k ∧ LowAt s w.heap.size k wr ∧ Below w.heap.size w wr) (fun i _ => s.size - (intOf i).toNat)
  case atStart => exact ⟨0, Nat.zero_le _, rfl, low_drew (low_start s w _ _ rfl), ((Below.refl _ _).alloc (Nat.le_refl _) _).drew⟩
  case round =>
    obtain ⟨k, hk, rfl, hl, hb⟩ := hrel
    by_cases hlt : k < s.size
    · obtain ⟨hc, hf⟩ := low_cell hl k hlt
      rw [lowZ_self] at hc
      obtain ⟨hb0, hb1⟩ := u8_bd (bAt s k)
      have HL := hide hl
      clear hl
      have HB := hide hb
      clear hb
      go_wp2
      all_goals
        go_roundw
        case rel => first
          | exact ⟨k + 1, by omega, by go_num, low_set HL.out hlt _ (by have := lowB_up (bAt s k) (by assumption) (by assumption); omega), HB.out.setCell (Nat.le_refl _) _⟩
          | exact ⟨k + 1, by omega, by go_num, low_kept HL.out (lowB_no _ (by omega)), HB.out⟩
        case measure => simp [intOf]; omega
    · obtain rfl : k = s.size := by omega
      have kc2 := low_conv hl (grownCap w s.size 0 5)
      have HB := hide hb
      clear hb hl
      go_wp2
      go_ret
      exact ⟨rfl, HB.out⟩
end Go.Proofs.YtllocmgmilllaaaDoor
