/- One thing asked of both tables: where the two hold the same entries, the answers are the same. -/
import Derived.Test.YtllocmgmilllaaaDoorRefX
namespace Go.Proofs.YtllocmgmilllaaaDoor
open Go.RowKit

set_option maxHeartbeats 1000000 in
set_option maxRecDepth 100000 in
theorem same9 (p q : Nat) (L : List Ent) (k l d : ByteArray) (w : World) (hp : TabAt 61 69 p L w) (hq : TabAt 36 40 q L w) (hL : L.length ≤ 2000) (hk : k.size ≤ maxLen) (hld : l.size + d.size + 1 ≤ 9223372036854775807) (hd : d.size ≤ maxLen) :
    Calls Tryd.prog 9 #[.pointer (some ⟨p, 0, none⟩), .pointer (some ⟨q, 0, none⟩), .agg #[.string k, .string l, .string d]] w fun e w' => e = .returned (.bool true) ∧ Below w.heap.size w w' := by
  go_enter Tryd.func9, Tryd.ntmps9
  have hba : Below w.heap.size w (w.alloc (.cells #[.string k, .string l, .string d] 43)) := (Below.refl _ _).alloc (Nat.le_refl _) _
  have hxb : (w.alloc (.cells #[.string k, .string l, .string d] 43)).heap[w.heap.size]? = some (.cells #[.string k, .string l, .string d] 43 (0, 0)) := by
    show (w.heap.push _)[w.heap.size]? = _
    rw [Array.getElem?_push, if_pos rfl]
  have hz : w.heap.size < (w.alloc (.cells #[.string k, .string l, .string d] 43)).heap.size := by simp
  have HP := hide (hp.below hba)
  have HQ := hide (hq.below hba)
  have HB := hide hba
  clear hp hq hba
  go_upto_region 1 with (fail)
  generalize w.alloc (.cells #[.string k, .string l, .string d] 43) = w0 at HP HQ HB hxb hz ⊢
  generalize hxe : w.heap.size = xb at hxb hz ⊢
  have HX := hide hxb
  have Hxe := hide hxe
  clear hxb hxe
  obtain ⟨x0, x1, x2⟩ := tri_cells HX.out
  have H1 := hide (fun W h => exact12 p L k W h hL hk)
  have H2 := hide (fun W h => exact20 q L k W h hL hk)
  have H3 := hide (fun W h => address11 p L l d W h hL hld)
  have H4 := hide (fun W h => address21 q L l d W h hL hld)
  have H5 := hide (fun W h => domain10 p L d W h hL hd)
  have H6 := hide (fun W h => domain22 q L d W h hL hd)
  generalize exactV L k = ev at H1 H2
  generalize exactB L k = eb at H1 H2
  generalize addrV L l d = av at H3 H4
  generalize addrB L l d = ab at H3 H4
  generalize (dom L d).1 = dv at H5 H6
  generalize (dom L d).2 = db at H5 H6
  go_wp2_with fail
  refine (H1.out _ HP.out).mono ?_
  rintro e w1 ⟨rfl, hb1⟩
  have c0 := cell_kept hb1 hz x0
  have c1 := cell_kept hb1 hz x1
  have c2 := cell_kept hb1 hz x2
  have z1 := Nat.lt_of_lt_of_le hz hb1.size
  have P1 := hide (HP.out.below hb1)
  have Q1 := hide (HQ.out.below hb1)
  have B1 := hide hb1
  clear x0 x1 x2 hb1 HP HQ H1
  go_wp2_with fail
  refine (H2.out _ Q1.out).mono ?_
  rintro e w2 ⟨rfl, hb2⟩
  have d1 := cell_kept hb2 z1 c1
  have d2 := cell_kept hb2 z1 c2
  have z2 := Nat.lt_of_lt_of_le z1 hb2.size
  have P2 := hide (P1.out.below hb2)
  have Q2 := hide (Q1.out.below hb2)
  have B2 := hide hb2
  clear c0 c1 c2 hb2 P1 Q1 H2
  go_wp2_with fail
  refine (H3.out _ P2.out).mono ?_
  rintro e w3 ⟨rfl, hb3⟩
  have e1 := cell_kept hb3 z2 d1
  have e2 := cell_kept hb3 z2 d2
  have z3 := Nat.lt_of_lt_of_le z2 hb3.size
  have P3 := hide (P2.out.below hb3)
  have Q3 := hide (Q2.out.below hb3)
  have B3 := hide hb3
  clear d1 d2 hb3 P2 Q2 H3
  go_wp2_with fail
  refine (H4.out _ Q3.out).mono ?_
  rintro e w4 ⟨rfl, hb4⟩
  have f2 := cell_kept hb4 z3 e2
  have z4 := Nat.lt_of_lt_of_le z3 hb4.size
  have P4 := hide (P3.out.below hb4)
  have Q4 := hide (Q3.out.below hb4)
  have B4 := hide hb4
  clear e1 e2 hb4 P3 Q3 H4
  go_wp2_with fail
  refine (H5.out _ P4.out).mono ?_
  rintro e w5 ⟨rfl, hb5⟩
  have g2 := cell_kept hb5 z4 f2
  have Q5 := hide (Q4.out.below hb5)
  have B5 := hide hb5
  clear f2 hb5 P4 Q4 H5
  go_wp2_with fail
  refine (H6.out _ Q5.out).mono ?_
  rintro e w6 ⟨rfl, hb6⟩
  have BB : Hid (Below w.heap.size w w6) := by
    have m0 := HB.out.size
    have m1 := B1.out.size
    have m2 := B2.out.size
    have m3 := B3.out.size
    have m4 := B4.out.size
    have m5 := B5.out.size
    exact (((((HB.out.trans (B1.out.mono m0)).trans (B2.out.mono (by omega))).trans (B3.out.mono (by omega))).trans (B4.out.mono (by omega))).trans (B5.out.mono (by omega))).trans (hb6.mono (by omega))
  clear g2 hb6 Q5 H6 HB B1 B2 B3 B4 B5 z1 z2 z3 z4 hz
  go_wp2_with fail
  go_ret
  exact ⟨rfl, BB.out⟩
end Go.Proofs.YtllocmgmilllaaaDoor
