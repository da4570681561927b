/- What the program's table answers: the place of a key, an exact look-up, an address, a domain, the k-th entry, the number of entries. -/
import Derived.Test.YtllocmgmilllaaaDoorTab
import Derived.Deep.QuietTactic
import Derived.BigQuiet
import Derived.WalkSmall
namespace Go.Proofs.YtllocmgmilllaaaDoor
open Go.RowKit

/-- The table (a block of type tt, its rows' element type te) at block p holds L. -/
def TabAt (tt te : TypeId) (p : Nat) (L : List Ent) (w : World) : Prop := ∃ v, w.heap[p]? = some (.cells #[v] tt (0, 0)) ∧ RowAt te v L w

theorem TabAt.below {tt te : TypeId} {p : Nat} {L : List Ent} {w w1 : World} (h : TabAt tt te p L w) (hb : Below w.heap.size w w1) : TabAt tt te p L w1 := by
  obtain ⟨v, h1, h2⟩ := h
  have hlt : p < w.heap.size := (Array.getElem?_eq_some_iff.1 h1).1
  exact ⟨v, (hb.block p hlt).trans h1, h2.below hb⟩

set_option maxHeartbeats 400000 in
set_option maxRecDepth 100000 in
theorem bsf38_none (A : Option Addr) (cap : Nat) (key : ByteArray) (w : World) :
    Calls Tryd.prog 38 #[.slice A 0 cap, .string key, .func (.func 39) #[] #[]] w fun e w' => e = .returned (.tuple #[.int .i64 0, .bool false]) ∧ Below w.heap.size w w' := by
  go_enter Tryd.func38, Tryd.ntmps38
  go_wp2
  refine wp_loop_rounds 1 ?_
  rw [rounds_succ]
  go_wp2
  go_ret2
  exact ⟨rfl, Below.refl _ _⟩

theorem placeI_nil (key : ByteArray) : placeI [] key = 0 := rfl
theorem placeB_nil (key : ByteArray) : placeB [] key = false := rfl

theorem bsf38 (v : Value) (L : List Ent) (key : ByteArray) (w : World) (hr : RowAt 69 v L w) (hL : L.length ≤ 2000) :
    Calls Tryd.prog 38 #[v, .string key, .func (.func 39) #[] #[]] w fun e w' => e = .returned (.tuple #[.int .i64 (placeI L key), .bool (placeB L key)]) ∧ Below w.heap.size w w' := by
  by_cases hp : 0 < L.length
  · obtain ⟨g, cap, rfl, _, hg, hc⟩ := hr.form hp
    exact bsf38_some g cap L key w hg hc hp hL
  · obtain ⟨A, cap, rfl⟩ := hr.slice
    obtain rfl : L = [] := List.length_eq_zero_iff.1 (by omega)
    exact bsf38_none A cap key w

set_option maxHeartbeats 400000 in
theorem place18 (p : Nat) (L : List Ent) (key : ByteArray) (w : World) (ht : TabAt 61 69 p L w) (hL : L.length ≤ 2000) :
    Calls Tryd.prog 18 #[.pointer (some ⟨p, 0, none⟩), .string key] w fun e w' => e = .returned (.tuple #[.int .i64 (placeI L key), .bool (placeB L key)]) ∧ Below w.heap.size w w' := by
  obtain ⟨v, h1, h2⟩ := ht
  obtain ⟨A, cap, rfl⟩ := h2.slice
  have hc : w.cell? ⟨p, 0, none⟩ = some (.slice A L.length cap) := by rw [cell_of_row w p 0 _ 61 (0, 0) h1]; rfl
  have HO := hide (bsf38 _ L key w h2 hL)
  clear h1 h2
  go_enter Tryd.func18, Tryd.ntmps18
  go_wp2_with (go_at_call 38; refine (HO.out).mono ?_; rintro e w' ⟨rfl, hb2⟩)
  go_ret2
  exact ⟨rfl, hb2⟩

def exactV (L : List Ent) (key : ByteArray) : ByteArray := if placeB L (lowS key) = true then valAt L (placeI L (lowS key)) else ByteArray.empty
def exactB (L : List Ent) (key : ByteArray) : Bool := placeB L (lowS key)

theorem TabAt.forms {tt te : TypeId} {p : Nat} {L : List Ent} {w : World} (h : TabAt tt te p L w) (hp : 0 < L.length) : ∃ g cap, w.cell? ⟨p, 0, none⟩ = some (.slice (some ⟨g, 0, none⟩) L.length cap) ∧
    ∀ k, k < L.length → w.cell? ⟨g, k * 2, none⟩ = some (.string (keyAt L k)) ∧ w.cell? ⟨g, k * 2 + 1, none⟩ = some (.string (valAt L k)) := by
  obtain ⟨v, h1, h2⟩ := h
  obtain ⟨g, cap, rfl, _, _, hc⟩ := h2.form hp
  exact ⟨g, cap, by rw [cell_of_row w p 0 _ tt (0, 0) h1]; rfl, hc⟩
theorem TabAt.slice {tt te : TypeId} {p : Nat} {L : List Ent} {w : World} (h : TabAt tt te p L w) : ∃ A cap, w.cell? ⟨p, 0, none⟩ = some (.slice A L.length cap) := by
  obtain ⟨v, h1, h2⟩ := h
  obtain ⟨A, cap, rfl⟩ := h2.slice
  exact ⟨A, cap, by rw [cell_of_row w p 0 _ tt (0, 0) h1]; rfl⟩

set_option maxHeartbeats 400000 in
theorem exact12 (p : Nat) (L : List Ent) (key : ByteArray) (w : World) (ht : TabAt 61 69 p L w) (hL : L.length ≤ 2000) (hs : key.size ≤ maxLen) :
    Calls Tryd.prog 12 #[.pointer (some ⟨p, 0, none⟩), .string key] w fun e w' => e = .returned (.tuple #[.string (exactV L key), .bool (exactB L key)]) ∧ Below w.heap.size w w' := by
  have HT := hide ht
  clear ht
  have HS := hide hs
  clear hs
  have H1 := hide (lower23 key w HS.out)
  unfold exactV exactB
  generalize hk : lowS key = lk at H1 ⊢
  clear hk
  by_cases hB : placeB L lk = true
  · rw [if_pos hB]
    have hlt := placeB_lt hB
    have HBt := hide hB
    clear hB
    go_enter Tryd.func12, Tryd.ntmps12
    go_wp2_with fail
    refine (H1.out).mono ?_
    rintro e w1 ⟨rfl, hb1⟩
    have HT1 := hide (HT.out.below hb1)
    have HB1 := hide hb1
    clear hb1
    go_wp2_with fail
    refine (place18 p L lk _ HT1.out hL).mono ?_
    rintro e w2 ⟨rfl, hb2⟩
    obtain ⟨g, cap, hc, hcs⟩ := (HT1.out.below hb2).forms (by omega)
    have hv := (hcs _ hlt).2
    clear hcs
    have HB2 := hide hb2
    clear hb2
    rw [HBt.out]
    go_wp2
    go_ret2
    exact ⟨by rw [HBt.out]; rfl, HB1.out.trans (HB2.out.mono HB1.out.size)⟩
  · rw [if_neg hB]
    have hB' : placeB L lk = false := by simpa using hB
    clear hB
    have HBt := hide hB'
    clear hB'
    go_enter Tryd.func12, Tryd.ntmps12
    go_wp2_with fail
    refine (H1.out).mono ?_
    rintro e w1 ⟨rfl, hb1⟩
    have HT1 := hide (HT.out.below hb1)
    have HB1 := hide hb1
    clear hb1
    go_wp2_with fail
    refine (place18 p L lk _ HT1.out hL).mono ?_
    rintro e w2 ⟨rfl, hb2⟩
    have HB2 := hide hb2
    clear hb2
    rw [HBt.out]
    go_wp2
    go_ret2
    exact ⟨by rw [HBt.out]; rfl, HB1.out.trans (HB2.out.mono HB1.out.size)⟩

def atS : ByteArray := ⟨#[64]⟩
def addrV (L : List Ent) (a d : ByteArray) : ByteArray := if exactB L (a ++ atS ++ d) = true then exactV L (a ++ atS ++ d) else exactV L (atS ++ d)
def addrB (L : List Ent) (a d : ByteArray) : Bool := if exactB L (a ++ atS ++ d) = true then true else exactB L (atS ++ d)

set_option maxHeartbeats 400000 in
theorem address11 (p : Nat) (L : List Ent) (a d : ByteArray) (w : World) (ht : TabAt 61 69 p L w) (hL : L.length ≤ 2000) (hs : a.size + d.size + 1 ≤ 9223372036854775807) :
    Calls Tryd.prog 11 #[.pointer (some ⟨p, 0, none⟩), .string a, .string d] w fun e w' => e = .returned (.tuple #[.string (addrV L a d), .bool (addrB L a d)]) ∧ Below w.heap.size w w' := by
  have HT := hide ht
  clear ht
  have hz : (a ++ atS ++ d).size = a.size + 1 + d.size := by simp [ByteArray.size_append, atS]; rfl
  have hz2 : (atS ++ d).size = 1 + d.size := by simp [ByteArray.size_append, atS]; rfl
  have H1 := hide (exact12 p L (a ++ atS ++ d) w HT.out hL (by unfold maxLen; omega))
  have H2 := hide (fun (w1 : World) (hb : Below w.heap.size w w1) => exact12 p L (atS ++ d) w1 (HT.out.below hb) hL (by unfold maxLen; omega))
  clear hz hz2
  unfold addrV addrB
  by_cases hB : exactB L (a ++ atS ++ d) = true
  · rw [if_pos hB, if_pos hB]
    rw [hB] at H1
    clear hB
    go_enter Tryd.func11, Tryd.ntmps11
    go_wp2_with fail
    refine (H1.out).mono ?_
    rintro e w1 ⟨rfl, hb1⟩
    have HB1 := hide hb1
    clear hb1
    go_wp2
    go_ret2
    exact ⟨rfl, HB1.out⟩
  · rw [if_neg hB, if_neg hB]
    have hB' : exactB L (a ++ atS ++ d) = false := by simpa using hB
    rw [hB'] at H1
    clear hB hB'
    go_enter Tryd.func11, Tryd.ntmps11
    go_wp2_with fail
    refine (H1.out).mono ?_
    rintro e w1 ⟨rfl, hb1⟩
    have HB1 := hide hb1
    clear hb1
    go_wp2_with fail
    refine (H2.out _ HB1.out).mono ?_
    rintro e w2 ⟨rfl, hb2⟩
    have HB2 := hide hb2
    clear hb2
    go_wp2
    go_ret2
    exact ⟨rfl, HB1.out.trans (HB2.out.mono HB1.out.size)⟩

set_option maxHeartbeats 400000 in
theorem len7 (p : Nat) (L : List Ent) (w : World) (ht : TabAt 61 69 p L w) :
    Calls Tryd.prog 7 #[.pointer (some ⟨p, 0, none⟩)] w fun e w' => e = .returned (.int .i64 L.length) ∧ w = w' := by
  obtain ⟨A, cap, hc⟩ := ht.slice
  clear ht
  go_enter Tryd.func7, Tryd.ntmps7
  go_wp2
  go_ret
  exact ⟨rfl, rfl⟩

theorem below_drawn {w : World} (n : Nat) : Below w.heap.size w (w.drewN n) := below_drewN (Below.refl _ _) n

set_option maxHeartbeats 400000 in
theorem at8_in (p : Nat) (L : List Ent) (k : Nat) (w : World) (ht : TabAt 61 69 p L w) (hk : k < L.length) (hL : L.length ≤ 2000) :
    Calls Tryd.prog 8 #[.pointer (some ⟨p, 0, none⟩), .int .i64 k] w fun e w' => e = .returned (.tuple #[.string (keyAt L k), .string (valAt L k), .bool true]) ∧ Below w.heap.size w w' := by
  obtain ⟨g, cap, hc, hcs⟩ := ht.forms (by omega)
  obtain ⟨h0, h1⟩ := hcs k hk
  have hk0 : decide ((k : Int) < 0) = false := decide_eq_false (by omega)
  have hk1 : decide (L.length ≤ k) = false := decide_eq_false (by omega)
  clear ht hcs
  go_enter Tryd.func8, Tryd.ntmps8
  go_wp2
  go_quiet (fail)
  go_wp2
  go_ret3
  exact ⟨rfl, below_drawn _⟩

set_option maxHeartbeats 400000 in
theorem at8_low (p : Nat) (L : List Ent) (w : World) (ht : TabAt 61 69 p L w) :
    Calls Tryd.prog 8 #[.pointer (some ⟨p, 0, none⟩), .int .i64 (-1)] w fun e w' => e = .returned (.tuple #[.string ByteArray.empty, .string ByteArray.empty, .bool false]) ∧ Below w.heap.size w w' := by
  obtain ⟨A, cap, hc⟩ := ht.slice
  clear ht
  go_enter Tryd.func8, Tryd.ntmps8
  go_wp2
  go_ret3
  exact ⟨rfl, Below.refl _ _⟩

set_option maxHeartbeats 400000 in
theorem at8_high (p : Nat) (L : List Ent) (w : World) (ht : TabAt 61 69 p L w) (hL : L.length ≤ 2000) :
    Calls Tryd.prog 8 #[.pointer (some ⟨p, 0, none⟩), .int .i64 L.length] w fun e w' => e = .returned (.tuple #[.string ByteArray.empty, .string ByteArray.empty, .bool false]) ∧ Below w.heap.size w w' := by
  obtain ⟨A, cap, hc⟩ := ht.slice
  have hk0 : decide ((L.length : Int) < 0) = false := decide_eq_false (by omega)
  have hk1 : decide (L.length ≤ L.length) = true := decide_eq_true (Nat.le_refl _)
  clear ht
  go_enter Tryd.func8, Tryd.ntmps8
  go_wp2
  go_ret3
  exact ⟨rfl, Below.refl _ _⟩
end Go.Proofs.YtllocmgmilllaaaDoor
