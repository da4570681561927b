/- What the reference's table answers: the place of a key, an exact look-up, an address, a domain: the same functions as the program's. -/
import Derived.Test.YtllocmgmilllaaaDoorTabC
namespace Go.Proofs.YtllocmgmilllaaaDoor
open Go.RowKit

set_option maxHeartbeats 400000 in
set_option maxRecDepth 100000 in
theorem place15_some (p g cap : Nat) (L : List Ent) (key : ByteArray) (w : World) (hcell : w.cell? ⟨p, 0, none⟩ = some (.slice (some ⟨g, 0, none⟩) L.length cap))
    (hc : ∀ k, k < L.length → w.cell? ⟨g, k * 2, none⟩ = some (.string (keyAt L k)) ∧ w.cell? ⟨g, k * 2 + 1, none⟩ = some (.string (valAt L k))) (hL : L.length ≤ 2000) :
    Calls Tryd.prog 15 #[.pointer (some ⟨p, 0, none⟩), .string key] w fun e w' => e = .returned (.tuple #[.int .i64 (placeI L key), .bool (placeB L key)]) ∧ Below w.heap.size w w' := by
  have HC := hide hc
  clear hc
  go_enter Tryd.func15, Tryd.ntmps15
  go_wp2
  go_loop [6, 7] (fun i j => ∃ lo hi f : Nat, i = .int .i64 lo ∧ j = .int .i64 hi ∧ lo ≤ hi ∧ hi ≤ L.length ∧ hi - lo < f ∧ Hid (bsGo L key f lo hi = placeI L key)) (fun i j => (intOf j - intOf i).toNat)
  case atStart => exact ⟨0, L.length, L.length + 1, rfl, rfl, Nat.zero_le _, Nat.le_refl _, by omega, rfl⟩
  case round =>
    obtain ⟨lo, hi, f, rfl, rfl, h1, h2, h3, HG⟩ := hrel
    by_cases hlt : lo < hi
    · obtain ⟨d0, _⟩ := HC.out ((lo + hi) / 2) (by omega)
      obtain ⟨f, rfl⟩ : ∃ f', f = f' + 1 := ⟨f - 1, by omega⟩
      by_cases hr : ltK (keyAt L ((lo + hi) / 2)) key = true
      · have HN : Hid (bsGo L key f ((lo + hi) / 2 + 1) hi = placeI L key) := (bs_lt hlt hr).symm.trans HG.out
        have hr' : Op.bytesLess (keyAt L ((lo + hi) / 2)).toList key.toList = true := hr
        clear HG hr
        go_wp2
        go_round
        case rel => exact ⟨(lo + hi) / 2 + 1, hi, f, by go_num, rfl, by omega, by omega, by omega, HN.out⟩
        case measure => simp [intOf]; omega
      · have HN : Hid (bsGo L key f lo ((lo + hi) / 2) = placeI L key) := (bs_ge hlt hr).symm.trans HG.out
        have hr' : Op.bytesLess (keyAt L ((lo + hi) / 2)).toList key.toList = false := Bool.eq_false_iff.2 hr
        clear HG hr
        go_wp2
        go_round
        case rel => exact ⟨lo, (lo + hi) / 2, f, rfl, by go_num, by omega, by omega, by omega, HN.out⟩
        case measure => simp [intOf]; omega
    · have HP : Hid (lo = placeI L key) := (bs_end hlt).symm.trans HG.out
      clear HG
      by_cases hl : lo < L.length
      · obtain ⟨d0, d1⟩ := HC.out lo hl
        have hd : decide (lo < L.length) = true := decide_eq_true hl
        have HQ : Hid (placeB L key = ((keyAt L lo).toList == key.toList)) := by
          show placeB L key = _
          unfold placeB
          rw [← HP.out, beq_toList]
          simp [hl]
        go_wp2
        go_quiet (fail)
        go_wp2
        go_ret2
        refine ⟨?_, below_drawn _⟩
        rw [HQ.out, ← HP.out]
        rfl
      · have hd : decide (lo < L.length) = false := decide_eq_false hl
        go_wp2
        go_quiet (fail)
        go_wp2
        go_ret2
        refine ⟨?_, below_drawn _⟩
        have e : placeB L key = false := by unfold placeB; rw [← HP.out]; simp [hl]
        rw [e, ← HP.out]
        rfl

set_option maxHeartbeats 400000 in
set_option maxRecDepth 100000 in
theorem place15_none (p : Nat) (A : Option Addr) (cap : Nat) (key : ByteArray) (w : World) (hcell : w.cell? ⟨p, 0, none⟩ = some (.slice A 0 cap)) :
    Calls Tryd.prog 15 #[.pointer (some ⟨p, 0, none⟩), .string key] w fun e w' => e = .returned (.tuple #[.int .i64 0, .bool false]) ∧ Below w.heap.size w w' := by
  go_enter Tryd.func15, Tryd.ntmps15
  go_wp2
  refine wp_loop_rounds 1 ?_
  rw [rounds_succ]
  go_wp2
  go_quiet (fail)
  go_wp2
  go_ret2
  exact ⟨rfl, below_drawn _⟩

theorem place15 (p : Nat) (L : List Ent) (key : ByteArray) (w : World) (ht : TabAt 36 40 p L w) (hL : L.length ≤ 2000) :
    Calls Tryd.prog 15 #[.pointer (some ⟨p, 0, none⟩), .string key] w fun e w' => e = .returned (.tuple #[.int .i64 (placeI L key), .bool (placeB L key)]) ∧ Below w.heap.size w w' := by
  by_cases hp : 0 < L.length
  · obtain ⟨g, cap, h1, h2⟩ := ht.forms hp
    exact place15_some p g cap L key w h1 h2 hL
  · obtain ⟨A, cap, hc⟩ := ht.slice
    obtain rfl : L = [] := List.length_eq_zero_iff.1 (by omega)
    exact place15_none p A cap key w hc

set_option maxHeartbeats 400000 in
theorem exact20 (p : Nat) (L : List Ent) (key : ByteArray) (w : World) (ht : TabAt 36 40 p L w) (hL : L.length ≤ 2000) (hs : key.size ≤ maxLen) :
    Calls Tryd.prog 20 #[.pointer (some ⟨p, 0, none⟩), .string key] w fun e w' => e = .returned (.tuple #[.string (exactV L key), .bool (exactB L key)]) ∧ Below w.heap.size w w' := by
  have HT := hide ht
  clear ht
  have HS := hide hs
  clear hs
  have H1 := hide (lower27 key w HS.out)
  unfold exactV exactB
  generalize hk : lowS key = lk at H1 ⊢
  clear hk
  by_cases hB : placeB L lk = true
  · rw [if_pos hB]
    have hlt := placeB_lt hB
    have HBt := hide hB
    clear hB
    go_enter Tryd.func20, Tryd.ntmps20
    go_wp2_with fail
    refine (H1.out).mono ?_
    rintro e w1 ⟨rfl, hb1⟩
    have HT1 := hide (HT.out.below hb1)
    have HB1 := hide hb1
    clear hb1
    go_wp2_with fail
    refine (place15 p L lk _ HT1.out hL).mono ?_
    rintro e w2 ⟨rfl, hb2⟩
    obtain ⟨g, cap, hc, hcs⟩ := (HT1.out.below hb2).forms (by omega)
    have hv := (hcs _ hlt).2
    clear hcs
    have HB2 := hide hb2
    clear hb2
    rw [HBt.out]
    go_wp2
    go_ret2
    exact ⟨by rw [HBt.out]; rfl, HB1.out.trans (HB2.out.mono HB1.out.size)⟩
  · rw [if_neg hB]
    have hB' : placeB L lk = false := by simpa using hB
    clear hB
    have HBt := hide hB'
    clear hB'
    go_enter Tryd.func20, Tryd.ntmps20
    go_wp2_with fail
    refine (H1.out).mono ?_
    rintro e w1 ⟨rfl, hb1⟩
    have HT1 := hide (HT.out.below hb1)
    have HB1 := hide hb1
    clear hb1
    go_wp2_with fail
    refine (place15 p L lk _ HT1.out hL).mono ?_
    rintro e w2 ⟨rfl, hb2⟩
    have HB2 := hide hb2
    clear hb2
    rw [HBt.out]
    go_wp2
    go_ret2
    exact ⟨by rw [HBt.out]; rfl, HB1.out.trans (HB2.out.mono HB1.out.size)⟩

set_option maxHeartbeats 400000 in
theorem address21 (p : Nat) (L : List Ent) (a d : ByteArray) (w : World) (ht : TabAt 36 40 p L w) (hL : L.length ≤ 2000) (hs : a.size + d.size + 1 ≤ 9223372036854775807) :
    Calls Tryd.prog 21 #[.pointer (some ⟨p, 0, none⟩), .string a, .string d] w fun e w' => e = .returned (.tuple #[.string (addrV L a d), .bool (addrB L a d)]) ∧ Below w.heap.size w w' := by
  have HT := hide ht
  clear ht
  have hz : (a ++ atS ++ d).size = a.size + 1 + d.size := by simp [ByteArray.size_append, atS]; rfl
  have hz2 : (atS ++ d).size = 1 + d.size := by simp [ByteArray.size_append, atS]; rfl
  have H1 := hide (exact20 p L (a ++ atS ++ d) w HT.out hL (by unfold maxLen; omega))
  have H2 := hide (fun (w1 : World) (hb : Below w.heap.size w w1) => exact20 p L (atS ++ d) w1 (HT.out.below hb) hL (by unfold maxLen; omega))
  clear hz hz2
  unfold addrV addrB
  by_cases hB : exactB L (a ++ atS ++ d) = true
  · rw [if_pos hB, if_pos hB]
    rw [hB] at H1
    clear hB
    go_enter Tryd.func21, Tryd.ntmps21
    go_wp2_with fail
    refine (H1.out).mono ?_
    rintro e w1 ⟨rfl, hb1⟩
    have HB1 := hide hb1
    clear hb1
    go_wp2
    go_ret2
    exact ⟨rfl, HB1.out⟩
  · rw [if_neg hB, if_neg hB]
    have hB' : exactB L (a ++ atS ++ d) = false := by simpa using hB
    rw [hB'] at H1
    clear hB hB'
    go_enter Tryd.func21, Tryd.ntmps21
    go_wp2_with fail
    refine (H1.out).mono ?_
    rintro e w1 ⟨rfl, hb1⟩
    have HB1 := hide hb1
    clear hb1
    go_wp2_with fail
    refine (H2.out _ HB1.out).mono ?_
    rintro e w2 ⟨rfl, hb2⟩
    have HB2 := hide hb2
    clear hb2
    go_wp2
    go_ret2
    exact ⟨rfl, HB1.out.trans (HB2.out.mono HB1.out.size)⟩


set_option maxHeartbeats 400000 in
set_option maxRecDepth 100000 in
theorem domain22 (p : Nat) (L : List Ent) (d : ByteArray) (w : World) (ht : TabAt 36 40 p L w) (hL : L.length ≤ 2000) (hs : d.size ≤ maxLen) :
    Calls Tryd.prog 22 #[.pointer (some ⟨p, 0, none⟩), .string d] w fun e w' => e = .returned (.tuple #[.string (dom L d).1, .bool (dom L d).2]) ∧ Below w.heap.size w w' := by
  have HT := hide ht
  clear ht
  have hs' := hs
  unfold maxLen at hs'
  have H1 := hide (exact20 p L d w HT.out hL hs)
  clear hs
  by_cases hB : exactB L d = true
  · have HR : Hid (dom L d = (exactV L d, true)) := by show dom L d = _; unfold dom; rw [if_pos hB]
    rw [hB] at H1
    clear hB
    go_enter Tryd.func22, Tryd.ntmps22
    go_wp2_with fail
    refine (H1.out).mono ?_
    rintro e w1 ⟨rfl, hb1⟩
    have HB1 := hide hb1
    clear hb1
    go_wp2
    refine wp_loop_rounds 1 ?_
    rw [rounds_succ]
    by_cases hlt : 1 < d.size
    · have hd : decide (1 < d.size) = true := decide_eq_true hlt
      go_wp2
      go_ret2
      exact ⟨by rw [HR.out]; rfl, HB1.out⟩
    · have hd : decide (1 < d.size) = false := decide_eq_false hlt
      go_wp2
      go_ret2
      exact ⟨by rw [HR.out]; rfl, HB1.out⟩
  · have HR : Hid (dom L d = domGo L d d.size 1) := by show dom L d = _; unfold dom; rw [if_neg hB]
    have hB' : exactB L d = false := by simpa using hB
    have hv : exactV L d = ByteArray.empty := by unfold exactV; rw [if_neg (by unfold exactB at hB'; rw [hB']; simp)]
    rw [hB', hv] at H1
    clear hB hB' hv
    go_enter Tryd.func22, Tryd.ntmps22
    go_wp2_with fail
    refine (H1.out).mono ?_
    rintro e w1 ⟨rfl, hb1⟩
    have HB1 := hide hb1
    clear hb1
    go_wp2
    go_loopw [6, 7, 8] (fun v is i wr => ∃ (k f : Nat) (x : ByteArray) (b : Bool), v = .string x ∧ is = .bool b ∧ i = .int .i64 k ∧ d.size - k ≤ f ∧ Hid ((b = true ∧ dom L d = (x, true)) ∨ (b = false ∧ x = ByteArray.empty ∧ domGo L d f k = dom L d)) ∧ Below w.heap.size w wr) (fun _ _ i _ => d.size - (intOf i).toNat)
    case atStart => exact ⟨1, d.size, _, _, rfl, rfl, rfl, by omega, .inr ⟨rfl, rfl, HR.out.symm⟩, HB1.out⟩
    case round =>
      obtain ⟨k, f, x, b, rfl, rfl, rfl, h3, HG, hb⟩ := hrel
      have HB := hide hb
      clear hb
      by_cases hlt : k < d.size
      · have hd0 : decide (k < d.size) = true := decide_eq_true hlt
        cases b with
        | true =>
          have HD : Hid (dom L d = (x, true)) := by rcases HG.out with h | h; exact h.2; exact absurd h.1 (by simp)
          clear HG
          go_wp2
          go_ret2
          exact ⟨by rw [HD.out]; rfl, HB.out⟩
        | false =>
          have HD : Hid (domGo L d f k = dom L d) := by rcases HG.out with h | h; exact absurd h.1 (by simp); exact h.2.2
          have hx : x = ByteArray.empty := by rcases HG.out with h | h; exact absurd h.1 (by simp); exact h.2.1
          clear HG
          subst hx
          obtain ⟨f, rfl⟩ : ∃ f', f = f' + 1 := ⟨f - 1, by omega⟩
          by_cases hd : bAt d k = 46
          · have hb1 : ((d[k].toNat : Int) == 46) = true := by have := byte_ne hlt 46 46 rfl; rw [hd] at this; simpa using this
            have hz : (d.extract k d.size).size ≤ maxLen := by rw [ByteArray.size_extract]; unfold maxLen; omega
            have H2 := hide (exact20 p L (d.extract k d.size) wr (HT.out.below HB.out) hL hz)
            clear hz
            by_cases hB : exactB L (d.extract k d.size) = true
            · have HN : Hid (dom L d = (exactV L (d.extract k d.size), true)) := HD.out.symm.trans (domGo_dot hlt hd hB)
              rw [hB] at H2
              clear hB hd HD
              go_wp2_with (go_at_call 20; refine (H2.out).mono ?_; rintro e w' ⟨rfl, hb2⟩)
              go_roundw
              case rel => exact ⟨k + 1, f, _, true, rfl, rfl, by go_num, by omega, .inl ⟨rfl, HN.out⟩, HB.out.trans (hb2.mono HB.out.size)⟩
              case measure => simp [intOf]; omega
            · have HN : Hid (domGo L d f (k + 1) = dom L d) := (domGo_no hlt hd hB).symm.trans HD.out
              have hB' : exactB L (d.extract k d.size) = false := by simpa using hB
              have hv : exactV L (d.extract k d.size) = ByteArray.empty := by unfold exactV; rw [if_neg (by unfold exactB at hB'; rw [hB']; simp)]
              rw [hB', hv] at H2
              clear hB hB' hd HD hv
              go_wp2_with (go_at_call 20; refine (H2.out).mono ?_; rintro e w' ⟨rfl, hb2⟩)
              go_roundw
              case rel => exact ⟨k + 1, f, _, false, rfl, rfl, by go_num, by omega, .inr ⟨rfl, rfl, HN.out⟩, HB.out.trans (hb2.mono HB.out.size)⟩
              case measure => simp [intOf]; omega
          · have hb1 : ((d[k].toNat : Int) == 46) = false := by have := byte_ne hlt 46 46 rfl; simp only [hd, decide_false, Bool.not_false, bne_iff_ne, ne_eq] at this; simpa using this
            have HN : Hid (domGo L d f (k + 1) = dom L d) := (domGo_else hlt hd).symm.trans HD.out
            clear hd HD
            go_wp2
            go_roundw
            case rel => exact ⟨k + 1, f, _, false, rfl, rfl, by go_num, by omega, .inr ⟨rfl, rfl, HN.out⟩, HB.out⟩
            case measure => simp [intOf]; omega
      · have hd0 : decide (k < d.size) = false := decide_eq_false hlt
        have HD : Hid (dom L d = (x, b)) := by
          rcases HG.out with h | h
          · rw [h.1]; exact h.2
          · rw [h.1, h.2.1, ← h.2.2]; exact domGo_end hlt
        clear HG
        go_wp2
        go_ret2
        exact ⟨by rw [HD.out]; rfl, HB.out⟩
end Go.Proofs.YtllocmgmilllaaaDoor
