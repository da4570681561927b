/- What the program's table answers of a domain: the domain itself, then what it lies in. -/
import Derived.Test.YtllocmgmilllaaaDoorTabB
namespace Go.Proofs.YtllocmgmilllaaaDoor
open Go.RowKit

/-- From place i on: the first parent that stands in the table. -/
def domGo (L : List Ent) (d : ByteArray) : Nat → Nat → ByteArray × Bool
  | 0, _ => (ByteArray.empty, false)
  | f + 1, i => if i < d.size then (if bAt d i = 46 then (if exactB L (d.extract i d.size) = true then (exactV L (d.extract i d.size), true) else domGo L d f (i + 1)) else domGo L d f (i + 1)) else (ByteArray.empty, false)
def dom (L : List Ent) (d : ByteArray) : ByteArray × Bool := if exactB L d = true then (exactV L d, true) else domGo L d d.size 1

theorem domGo_end {L : List Ent} {d : ByteArray} {f i : Nat} (h : ¬ i < d.size) : domGo L d f i = (ByteArray.empty, false) := by
  cases f <;> simp [domGo, h]
theorem domGo_dot {L : List Ent} {d : ByteArray} {f i : Nat} (h : i < d.size) (h1 : bAt d i = 46) (h2 : exactB L (d.extract i d.size) = true) : domGo L d (f + 1) i = (exactV L (d.extract i d.size), true) := by
  simp [domGo, h, h1, h2]
theorem domGo_no {L : List Ent} {d : ByteArray} {f i : Nat} (h : i < d.size) (h1 : bAt d i = 46) (h2 : ¬ exactB L (d.extract i d.size) = true) : domGo L d (f + 1) i = domGo L d f (i + 1) := by
  simp [domGo, h, h1, h2]
theorem domGo_else {L : List Ent} {d : ByteArray} {f i : Nat} (h : i < d.size) (h1 : ¬ bAt d i = 46) : domGo L d (f + 1) i = domGo L d f (i + 1) := by
  simp [domGo, h, h1]

theorem byte_ne {s : ByteArray} {k : Nat} (h : k < s.size) (c : UInt8) (m : Int) (hm : (c.toNat : Int) = m) : ((s[k].toNat : Int) != m) = !decide (bAt s k = c) := by
  rw [bAt_eq h, ← hm, Bool.eq_iff_iff]
  simp only [bne_iff_ne, ne_eq, Bool.not_eq_true', decide_eq_false_iff_not]
  constructor
  · intro h1 h2
    rw [h2] at h1
    exact h1 rfl
  · intro h1 h2
    exact h1 (UInt8.toNat_inj.1 (by omega))

set_option maxHeartbeats 400000 in
set_option maxRecDepth 100000 in
theorem domain10 (p : Nat) (L : List Ent) (d : ByteArray) (w : World) (ht : TabAt 61 69 p L w) (hL : L.length ≤ 2000) (hs : d.size ≤ maxLen) :
    Calls Tryd.prog 10 #[.pointer (some ⟨p, 0, none⟩), .string d] w fun e w' => e = .returned (.tuple #[.string (dom L d).1, .bool (dom L d).2]) ∧ Below w.heap.size w w' := by
  have HT := hide ht
  clear ht
  have hs' := hs
  unfold maxLen at hs'
  have H1 := hide (exact12 p L d w HT.out hL hs)
  clear hs
  by_cases hB : exactB L d = true
  · have e : dom L d = (exactV L d, true) := by unfold dom; rw [if_pos hB]
    rw [e]
    rw [hB] at H1
    clear hB e
    go_enter Tryd.func10, Tryd.ntmps10
    go_wp2_with fail
    refine (H1.out).mono ?_
    rintro e w1 ⟨rfl, hb1⟩
    have HB1 := hide hb1
    clear hb1
    go_wp2
    go_ret2
    exact ⟨rfl, HB1.out⟩
  · have HR : Hid (dom L d = domGo L d d.size 1) := by show dom L d = _; unfold dom; rw [if_neg hB]
    have hB' : exactB L d = false := by simpa using hB
    rw [hB'] at H1
    clear hB hB'
    go_enter Tryd.func10, Tryd.ntmps10
    go_wp2_with fail
    refine (H1.out).mono ?_
    rintro e w1 ⟨rfl, hb1⟩
    have HB1 := hide hb1
    clear hb1
    go_wp2
    go_loopw [8] (fun i wr => ∃ k f : Nat, i = .int .i64 k ∧ d.size - k ≤ f ∧ Hid (domGo L d f k = dom L d) ∧ Below w.heap.size w wr) (fun i _ => d.size - (intOf i).toNat)
    case atStart => exact ⟨1, d.size, rfl, by omega, HR.out.symm, HB1.out⟩
    case round =>
      obtain ⟨k, f, rfl, h3, HG, hb⟩ := hrel
      have HB := hide hb
      clear hb
      by_cases hlt : k < d.size
      · obtain ⟨f, rfl⟩ : ∃ f', f = f' + 1 := ⟨f - 1, by omega⟩
        by_cases hd : bAt d k = 46
        · have hb1 : ((d[k].toNat : Int) != 46) = false := by rw [byte_ne hlt 46 46 rfl]; simp [hd]
          have hz : (d.extract k d.size).size ≤ maxLen := by rw [ByteArray.size_extract]; unfold maxLen; omega
          have H2 := hide (exact12 p L (d.extract k d.size) wr (HT.out.below HB.out) hL hz)
          clear hz
          by_cases hB : exactB L (d.extract k d.size) = true
          · have HN : Hid (dom L d = (exactV L (d.extract k d.size), true)) := HG.out.symm.trans (domGo_dot hlt hd hB)
            rw [hB] at H2
            clear hB hd
            go_wp2_with (go_at_call 12; refine (H2.out).mono ?_; rintro e w' ⟨rfl, hb2⟩)
            go_ret2
            exact ⟨by rw [HN.out]; rfl, HB.out.trans (hb2.mono HB.out.size)⟩
          · have HN : Hid (domGo L d f (k + 1) = dom L d) := (domGo_no hlt hd hB).symm.trans HG.out
            have hB' : exactB L (d.extract k d.size) = false := by simpa using hB
            rw [hB'] at H2
            clear hB hB' hd HG
            go_wp2_with (go_at_call 12; refine (H2.out).mono ?_; rintro e w' ⟨rfl, hb2⟩)
            go_roundw
            case rel => exact ⟨k + 1, f, by go_num, by omega, HN.out, HB.out.trans (hb2.mono HB.out.size)⟩
            case measure => simp [intOf]; omega
        · have hb1 : ((d[k].toNat : Int) != 46) = true := by rw [byte_ne hlt 46 46 rfl]; simp [hd]
          have HN : Hid (domGo L d f (k + 1) = dom L d) := (domGo_else hlt hd).symm.trans HG.out
          clear hd HG
          go_wp2
          go_roundw
          case rel => exact ⟨k + 1, f, by go_num, by omega, HN.out, HB.out⟩
          case measure => simp [intOf]; omega
      · go_wp2
        go_ret2
        refine ⟨?_, HB.out⟩
        rw [← HG.out, domGo_end hlt]
        rfl
end Go.Proofs.YtllocmgmilllaaaDoor
