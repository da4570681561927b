/- What the program's and the reference's tables compute, in plain Lean: places, look-ups. -/
import GoSem.Claim
import Derived.Lib.Bytealg
namespace Go.Proofs.YtllocmgmilllaaaDoor

abbrev Ent := ByteArray × ByteArray

theorem ba_loop (a : ByteArray) : ∀ (d i : Nat) (r : List UInt8), a.size - i = d → ByteArray.toList.loop a i r = r.reverse ++ a.data.toList.drop i
  | 0, i, r, h => by
    unfold ByteArray.toList.loop
    have hs : a.data.toList.length = a.size := by rw [Array.length_toList]; rfl
    rw [if_neg (by omega), List.drop_eq_nil_of_le (by omega), List.append_nil]
  | d + 1, i, r, h => by
    unfold ByteArray.toList.loop
    have hs : a.data.toList.length = a.size := by rw [Array.length_toList]; rfl
    have hi : i < a.size := by omega
    rw [if_pos hi, ba_loop a d (i + 1) _ (by omega), List.reverse_cons, List.append_assoc]
    congr 1
    have e1 : a.get! i = a.data.toList[i]'(by omega) := by
      cases a with
      | mk d => 
        have hi' : i < d.size := hi
        show d[i]! = _
        rw [getElem!_pos d i hi']
        simp
    rw [e1, List.singleton_append, List.drop_eq_getElem_cons (by omega : i < a.data.toList.length)]
theorem ba_toList (a : ByteArray) : a.toList = a.data.toList := by
  unfold ByteArray.toList
  rw [ba_loop a _ 0 [] rfl]
  simp
theorem ba_ext {a b : ByteArray} (h : a.data.toList = b.data.toList) : a = b := by
  cases a; cases b
  congr 1
  exact Array.toList_inj.1 h

def ltK (a b : ByteArray) : Bool := Op.bytesLess a.toList b.toList

theorem cmpL_lt : ∀ a b : List UInt8, (Lib.compareBytes a b < 0) ↔ Op.bytesLess a b = true
  | [], [] => by simp [Lib.compareBytes, Op.bytesLess]
  | [], _ :: _ => by simp [Lib.compareBytes, Op.bytesLess]
  | _ :: _, [] => by simp [Lib.compareBytes, Op.bytesLess]
  | x :: a, y :: b => by
    have ih := cmpL_lt a b
    unfold Lib.compareBytes Op.bytesLess
    by_cases h : x < y
    · simp [h]
    · by_cases h' : y < x
      · have hne : x ≠ y := fun e => by subst e; exact h h'
        simp [h, h', hne]
      · have e : x = y := UInt8.le_antisymm (UInt8.not_lt.1 h') (UInt8.not_lt.1 h)
        subst e
        simp [h, ih]
theorem cmpL_eq0 : ∀ a b : List UInt8, (Lib.compareBytes a b = 0) ↔ a = b
  | [], [] => by simp [Lib.compareBytes]
  | [], _ :: _ => by simp [Lib.compareBytes]
  | _ :: _, [] => by simp [Lib.compareBytes]
  | x :: a, y :: b => by
    have ih := cmpL_eq0 a b
    unfold Lib.compareBytes
    by_cases h : x < y
    · have hne : x ≠ y := fun e => by subst e; exact UInt8.lt_irrefl x h
      simp [h, hne]
    · by_cases h' : y < x
      · have hne : x ≠ y := fun e => by subst e; exact h h'
        simp [h, h', hne]
      · have e : x = y := UInt8.le_antisymm (UInt8.not_lt.1 h') (UInt8.not_lt.1 h)
        subst e
        simp [h, ih]
theorem cmp_lt (a b : ByteArray) : (Lib.compareBytes a.data.toList b.data.toList < 0) ↔ ltK a b = true := by
  unfold ltK
  rw [ba_toList, ba_toList]
  exact cmpL_lt _ _
theorem cmp_eq0 (a b : ByteArray) : (Lib.compareBytes a.data.toList b.data.toList = 0) ↔ a = b := by
  rw [cmpL_eq0]
  exact ⟨ba_ext, fun h => by rw [h]⟩
theorem beq_toList (a b : ByteArray) : (a.toList == b.toList) = decide (a = b) := by
  rw [ba_toList, ba_toList, Bool.eq_iff_iff]
  simp only [beq_iff_eq, decide_eq_true_eq]
  exact ⟨ba_ext, fun h => by rw [h]⟩

def keyAt (L : List Ent) (k : Nat) : ByteArray := (L.getD k (ByteArray.empty, ByteArray.empty)).1
def valAt (L : List Ent) (k : Nat) : ByteArray := (L.getD k (ByteArray.empty, ByteArray.empty)).2

/-- The binary search, by rounds. -/
def bsGo (L : List Ent) (key : ByteArray) : Nat → Nat → Nat → Nat
  | 0, lo, _ => lo
  | f + 1, lo, hi => if lo < hi then (if ltK (keyAt L ((lo + hi) / 2)) key then bsGo L key f ((lo + hi) / 2 + 1) hi else bsGo L key f lo ((lo + hi) / 2)) else lo

def placeI (L : List Ent) (key : ByteArray) : Nat := bsGo L key (L.length + 1) 0 L.length
def placeB (L : List Ent) (key : ByteArray) : Bool := decide (placeI L key < L.length) && decide (keyAt L (placeI L key) = key)

theorem bsGo_le (L : List Ent) (key : ByteArray) : ∀ f lo hi, lo ≤ hi → bsGo L key f lo hi ≤ hi
  | 0, _, _, h => h
  | f + 1, lo, hi, h => by
    unfold bsGo
    split
    · split
      · exact bsGo_le L key f _ _ (by omega)
      · exact Nat.le_trans (bsGo_le L key f _ _ (by omega)) (by omega)
    · exact h
theorem placeI_le (L : List Ent) (key : ByteArray) : placeI L key ≤ L.length := bsGo_le _ _ _ _ _ (Nat.zero_le _)
theorem placeB_lt {L : List Ent} {key : ByteArray} (h : placeB L key = true) : placeI L key < L.length := by
  unfold placeB at h
  rw [Bool.and_eq_true] at h
  exact of_decide_eq_true h.1

theorem bs_lt {L : List Ent} {key : ByteArray} {f lo hi : Nat} (h : lo < hi) (hl : ltK (keyAt L ((lo + hi) / 2)) key = true) : bsGo L key (f + 1) lo hi = bsGo L key f ((lo + hi) / 2 + 1) hi := by
  simp [bsGo, h, hl]
theorem bs_ge {L : List Ent} {key : ByteArray} {f lo hi : Nat} (h : lo < hi) (hl : ¬ ltK (keyAt L ((lo + hi) / 2)) key = true) : bsGo L key (f + 1) lo hi = bsGo L key f lo ((lo + hi) / 2) := by
  simp [bsGo, h, hl]
theorem bs_end {L : List Ent} {key : ByteArray} {f lo hi : Nat} (h : ¬ lo < hi) : bsGo L key f lo hi = lo := by
  cases f <;> simp [bsGo, h]

end Go.Proofs.YtllocmgmilllaaaDoor
