/- The law: at any text and any questions it returns true. -/
import Derived.Test.YtllocmgmilllaaaDoorShown
import Derived.Test.YtllocmgmilllaaaDoorSame
import Derived.Test.YtllocmgmilllaaaDoorSmall1
namespace Go.Proofs.YtllocmgmilllaaaDoor
open Go.RowKit

theorem cell_lt {w : World} {b i : Nat} {v : Value} (h : w.cell? ⟨b, i, none⟩ = some v) : b < w.heap.size := by
  refine Nat.lt_of_not_le (fun hb => ?_)
  have : w.heap[b]? = none := Array.getElem?_eq_none (by omega)
  unfold World.cell? at h
  simp [this] at h

theorem small_at {L : List Ent} (h : SmallE L) {k : Nat} (hk : k < L.length) : (keyAt L k).size ≤ 320 ∧ (valAt L k).size ≤ 1000 := by
  have e : L.getD k (ByteArray.empty, ByteArray.empty) = L[k] := by rw [List.getD_eq_getElem?_getD, List.getElem?_eq_getElem hk]; rfl
  unfold keyAt valAt
  rw [e]
  exact h _ (List.getElem_mem hk)

/-- The k-th question lies in memory. -/
def AskAt (A : Option Addr) (w : World) (k : Nat) : Prop :=
  ∃ b o x y z, A = some ⟨b, o, none⟩ ∧ b < w.heap.size ∧ w.cell? ⟨b, o + k * 3, none⟩ = some (.string x) ∧ w.cell? ⟨b, o + k * 3 + 1, none⟩ = some (.string y) ∧ w.cell? ⟨b, o + k * 3 + 2, none⟩ = some (.string z) ∧
    x.size ≤ maxLen ∧ y.size + z.size + 1 ≤ 9223372036854775807

set_option maxHeartbeats 1000000 in
set_option maxRecDepth 100000 in
theorem law3_none (s : ByteArray) (v : Value) (c : Int) (x : Nat) (w : World) (hs : s.size ≤ maxLen) (hp : parse s = (none, c, x)) :
    Calls Tryd.prog 3 #[.string s, v] w fun e w' => e = .returned (.bool true) ∧ Below w.heap.size w w' := by
  have H4 := hide (fun W => shown4 W)
  have H5 : Hid (∀ W, Calls Tryd.prog 5 #[.string s] W fun e w' => e = .returned (.tuple #[.pointer none, .agg #[.int .i64 c, .int .i64 (x : Int)]]) ∧ Below W.heap.size W w') := fun W => by
    refine (parse5 s W hs).mono ?_
    rintro e w' ⟨⟨p, rfl, h1⟩, hb⟩
    rw [hp] at h1 ⊢
    rcases h1 with ⟨_, rfl⟩ | ⟨L', g, h1, _⟩
    · exact ⟨rfl, hb⟩
    · cases h1
  have H6 := hide (fun W => parse_none s c x hp hs W)
  clear hp
  go_enter Tryd.func3, Tryd.ntmps3
  go_wp2_with fail
  refine (H4.out _).mono ?_
  rintro e w1 ⟨rfl, hb1⟩
  go_wp2_with fail
  refine (H5.out _).mono ?_
  rintro e w2 ⟨rfl, hb2⟩
  go_upto_region 3 with (fail)
  have B2 : Hid (Below w.heap.size w (w2.alloc (.cells #[.int .i64 c, .int .i64 (x : Int)] 27))) := (hb1.trans (hb2.mono hb1.size)).alloc (Nat.le_trans hb1.size hb2.size) _
  have hx : (w2.alloc (.cells #[.int .i64 c, .int .i64 (x : Int)] 27)).heap[w2.heap.size]? = some (.cells #[.int .i64 c, .int .i64 (x : Int)] 27 (0, 0)) := by
    show (w2.heap.push _)[w2.heap.size]? = _
    rw [Array.getElem?_push, if_pos rfl]
  have hlt : w2.heap.size < (w2.alloc (.cells #[.int .i64 c, .int .i64 (x : Int)] 27)).heap.size := by simp
  clear hb1 hb2
  generalize w2.alloc (.cells #[.int .i64 c, .int .i64 (x : Int)] 27) = w3 at B2 hx hlt ⊢
  generalize w2.heap.size = xa at hx hlt ⊢
  have HX := hide hx
  clear hx
  go_wp2_with fail
  refine (H6.out _).mono ?_
  rintro e w4 ⟨rfl, hb4⟩
  go_upto_region 4 with (fail)
  have B4 : Hid (Below w.heap.size w (w4.alloc (.cells #[.int .i64 c, .int .i64 (x : Int)] 27))) := (B2.out.trans (hb4.mono B2.out.size)).alloc (Nat.le_trans B2.out.size hb4.size) _
  have hxb : (w4.alloc (.cells #[.int .i64 c, .int .i64 (x : Int)] 27)).heap[w4.heap.size]? = some (.cells #[.int .i64 c, .int .i64 (x : Int)] 27 (0, 0)) := by
    show (w4.heap.push _)[w4.heap.size]? = _
    rw [Array.getElem?_push, if_pos rfl]
  have hxc : (w4.alloc (.cells #[.int .i64 c, .int .i64 (x : Int)] 27)).heap[xa]? = some (.cells #[.int .i64 c, .int .i64 (x : Int)] 27 (0, 0)) :=
    ((hb4.alloc hb4.size _).block _ hlt).trans HX.out
  clear B2 hb4 hlt HX
  generalize w4.alloc (.cells #[.int .i64 c, .int .i64 (x : Int)] 27) = w5 at B4 hxb hxc ⊢
  generalize w4.heap.size = xb at hxb ⊢
  obtain ⟨r0, r1, -, -⟩ := pair_cells hxb
  obtain ⟨s0, s1, -, -⟩ := pair_cells hxc
  clear hxb hxc
  go_wp2_with fail
  go_ret
  exact ⟨rfl, B4.out⟩

set_option maxHeartbeats 1000000 in
set_option maxRecDepth 100000 in
theorem law3_some (s : ByteArray) (A : Option Addr) (n cap : Nat) (L : List Ent) (w : World) (hs : s.size ≤ maxLen) (hp : parse s = (some L, 0, 0)) (_hn : n ≤ cap) (hask : ∀ k, k < n → AskAt A w k) :
    Calls Tryd.prog 3 #[.string s, .slice A n cap] w fun e w' => e = .returned (.bool true) ∧ Below w.heap.size w w' := by
  have H4 := hide (fun W => shown4 W)
  have H5 : Hid (∀ W, Calls Tryd.prog 5 #[.string s] W fun e w' => ∃ q, e = .returned (.tuple #[.pointer (some ⟨q, 0, none⟩), .agg #[.int .i64 0, .int .i64 0]]) ∧ TabAt 36 40 q L w' ∧ L.length ≤ 2000 ∧ Below W.heap.size W w') := fun W => by
    refine (parse5 s W hs).mono ?_
    rintro e w' ⟨⟨p, rfl, h1⟩, hb⟩
    rw [hp] at h1 ⊢
    rcases h1 with ⟨h1, _⟩ | ⟨L', g, h1, rfl, _, ht, hL⟩
    · cases h1
    · cases h1
      exact ⟨g, rfl, ht, hL, hb⟩
  have H6 := hide (fun W => parse_some s L hp hs W)
  have HSm := hide (parse_small s L 0 0 hp).1
  have HAsk := hide hask
  clear hp hask
  go_enter Tryd.func3, Tryd.ntmps3
  go_wp2_with fail
  refine (H4.out _).mono ?_
  rintro e w1 ⟨rfl, hb1⟩
  go_wp2_with fail
  refine (H5.out _).mono ?_
  rintro e w2 ⟨q, rfl, hq, hL, hb2⟩
  go_upto_region 3 with (fail)
  have hba : Below w2.heap.size w2 (w2.alloc (.cells #[.int .i64 0, .int .i64 0] 27)) := (Below.refl _ _).alloc (Nat.le_refl _) _
  have B2 : Hid (Below w.heap.size w (w2.alloc (.cells #[.int .i64 0, .int .i64 0] 27))) := (hb1.trans (hb2.mono hb1.size)).alloc (Nat.le_trans hb1.size hb2.size) _
  have Q2 := hide (hq.below hba)
  have hx : (w2.alloc (.cells #[.int .i64 0, .int .i64 0] 27)).heap[w2.heap.size]? = some (.cells #[.int .i64 0, .int .i64 0] 27 (0, 0)) := by
    show (w2.heap.push _)[w2.heap.size]? = _
    rw [Array.getElem?_push, if_pos rfl]
  have hlt : w2.heap.size < (w2.alloc (.cells #[.int .i64 0, .int .i64 0] 27)).heap.size := by simp
  clear hb1 hb2 hba hq
  generalize w2.alloc (.cells #[.int .i64 0, .int .i64 0] 27) = w3 at B2 Q2 hx hlt ⊢
  generalize w2.heap.size = xa at hx hlt ⊢
  have HX := hide hx
  clear hx
  go_wp2_with fail
  refine (H6.out _).mono ?_
  rintro e w4 ⟨p, rfl, hp, hb4⟩
  go_upto_region 4 with (fail)
  have hba : Below w4.heap.size w4 (w4.alloc (.cells #[.int .i64 0, .int .i64 0] 27)) := (Below.refl _ _).alloc (Nat.le_refl _) _
  have B4 : Hid (Below w.heap.size w (w4.alloc (.cells #[.int .i64 0, .int .i64 0] 27))) := (B2.out.trans (hb4.mono B2.out.size)).alloc (Nat.le_trans B2.out.size hb4.size) _
  have P4 := hide (hp.below hba)
  have Q4 := hide ((Q2.out.below hb4).below hba)
  have hxb : (w4.alloc (.cells #[.int .i64 0, .int .i64 0] 27)).heap[w4.heap.size]? = some (.cells #[.int .i64 0, .int .i64 0] 27 (0, 0)) := by
    show (w4.heap.push _)[w4.heap.size]? = _
    rw [Array.getElem?_push, if_pos rfl]
  have hxc : (w4.alloc (.cells #[.int .i64 0, .int .i64 0] 27)).heap[xa]? = some (.cells #[.int .i64 0, .int .i64 0] 27 (0, 0)) :=
    ((hb4.alloc hb4.size _).block _ hlt).trans HX.out
  clear B2 hb4 hlt HX hp hba Q2 H4 H5 H6
  generalize w4.alloc (.cells #[.int .i64 0, .int .i64 0] 27) = w5 at B4 P4 Q4 hxb hxc ⊢
  generalize w4.heap.size = xb at hxb ⊢
  obtain ⟨r0, r1, -, -⟩ := pair_cells hxb
  obtain ⟨s0, s1, -, -⟩ := pair_cells hxc
  clear hxb hxc
  have H7 : Hid (∀ W, TabAt 61 69 p L W → Calls Tryd.prog 7 #[.pointer (some ⟨p, 0, none⟩)] W fun e w' => e = .returned (.int .i64 L.length) ∧ w' = W) := fun W h => (len7 p L W h).mono (fun e w' h => ⟨h.1, by obtain ⟨_, rfl⟩ := h; rfl⟩)
  obtain ⟨Aq, cq, hqc⟩ := Q4.out.slice
  go_upto_region 8 with (fail)
  clear r0 r1 s0 s1
  have HTd : Hid (∀ k, TabAt 61 69 p L (w5.drewN k)) := fun k => P4.out.below (below_drawn k)
  have HQd : Hid (∀ k, TabAt 36 40 q L (w5.drewN k)) := fun k => Q4.out.below (below_drawn k)
  have HBd : Hid (∀ k, Below w.heap.size w (w5.drewN k)) := fun k => below_drewN B4.out k
  clear P4 Q4 B4
  go_quiet ((go_at_call 7; exact Calls.quiet_of_same (H7.out _ (HTd.out _))))
  clear H7 hqc
  have P6 := hide (HTd.out nq)
  have Q6 := hide (HQd.out nq)
  have B6 := hide (HBd.out nq)
  clear HTd HQd HBd
  generalize w5.drewN nq = w6 at P6 Q6 B6 ⊢
  obtain ⟨Aq, cq, hqc⟩ := Q6.out.slice
  go_wp2_with fail
  go_loopw [10] (fun vi wr => ∃ k : Nat, vi = .int .i64 k ∧ k ≤ L.length ∧ Hid (TabAt 61 69 p L wr) ∧ Hid (TabAt 36 40 q L wr) ∧ Hid (Below w.heap.size w wr)) (fun vi _ => L.length - (intOf vi).toNat)
  case atStart => exact ⟨0, rfl, Nat.zero_le _, P6, Q6, B6⟩
  case round =>
    clear P6 Q6 B6 hqc
    obtain ⟨k, rfl, hk, P, Q, B⟩ := hrel
    by_cases klt : k < L.length
    · have kd : decide (k < L.length) = true := decide_eq_true klt
      obtain ⟨g, cg, hc, hcs⟩ := Q.out.forms (by omega)
      obtain ⟨h0, h1⟩ := hcs k klt
      have H8 := hide (fun W h => at8_in p L k W h klt hL)
      obtain ⟨hks, hvs⟩ := small_at HSm.out klt
      have H9 := hide (fun W hp hq => same9 p q L (keyAt L k) (keyAt L k) (valAt L k) W hp hq hL (by unfold maxLen; omega) (by omega) (by unfold maxLen; omega))
      have hz := Nat.lt_of_lt_of_le (cell_lt h0) (Nat.le_refl _)
      generalize keyAt L k = key at h0 H8 H9
      generalize valAt L k = val at h1 H8 H9
      go_wp2_with fail
      refine (H8.out _ P.out).mono ?_
      rintro e wa ⟨rfl, hba⟩
      have hqa := cell_kept hba (cell_lt hc) hc
      have h0a := cell_kept hba (cell_lt h0) h0
      have h1a := cell_kept hba (cell_lt h1) h1
      have Pa := hide (P.out.below hba)
      have Qa := hide (Q.out.below hba)
      have Ba := hide (B.out.trans (hba.mono B.out.size))
      clear hba P Q B hc h0 h1 H8 hcs hz
      go_wp2_with fail
      refine (H9.out _ Pa.out Qa.out).mono ?_
      rintro e wb ⟨rfl, hbb⟩
      have Pb := hide (Pa.out.below hbb)
      have Qb := hide (Qa.out.below hbb)
      have Bb := hide (Ba.out.trans (hbb.mono Ba.out.size))
      clear hbb Pa Qa Ba H9 hqa h0a h1a
      go_wp2_with fail
      go_roundw
      case rel => exact ⟨k + 1, by go_num, by omega, Pb, Qb, Bb⟩
      case measure => simp [intOf]; omega
    · have kd : decide (k < L.length) = false := decide_eq_false klt
      obtain ⟨Ap, cp, hpc⟩ := Q.out.slice
      go_upto_block 2 with (fail)
      go_cut [] (fun wc => Hid (TabAt 61 69 p L wc) ∧ Hid (TabAt 36 40 q L wc) ∧ Hid (Below w.heap.size w wc))
      case first =>
        clear hpc
        go_wp2_with fail
        go_loopw [15] (fun vi wr => ∃ k : Nat, vi = .int .i64 k ∧ k ≤ n ∧ k ≤ 100 ∧ Hid (TabAt 61 69 p L wr) ∧ Hid (TabAt 36 40 q L wr) ∧ Hid (Below w.heap.size w wr)) (fun vi _ => 100 - (intOf vi).toNat)
        case atStart => exact ⟨0, rfl, Nat.zero_le _, Nat.zero_le _, P, Q, B⟩
        case round =>
          clear P Q B
          obtain ⟨k2, rfl, hk2, hk3, P, Q, B⟩ := hrel
          by_cases k2n : k2 < n
          · have d1 : decide (k2 < n) = true := decide_eq_true k2n
            by_cases k2h : k2 < 100
            · have d2 : decide (k2 < 100) = true := decide_eq_true k2h
              obtain ⟨b, o, x, y, z, hA, hb, a0, a1, a2, hx, hyz⟩ := HAsk.out k2 k2n
              subst hA
              have c0 := (B.out.cell (p := ⟨b, o + k2 * 3, none⟩) hb).trans a0
              have c1 := (B.out.cell (p := ⟨b, o + k2 * 3 + 1, none⟩) hb).trans a1
              have c2 := (B.out.cell (p := ⟨b, o + k2 * 3 + 2, none⟩) hb).trans a2
              clear a0 a1 a2
              have H9 := hide (fun W hp hq => same9 p q L x y z W hp hq hL hx hyz (by unfold maxLen; omega))
              clear hx hyz
              go_wp2_with fail
              refine (H9.out _ P.out Q.out).mono ?_
              rintro e wb ⟨rfl, hbb⟩
              have Pb := hide (P.out.below hbb)
              have Qb := hide (Q.out.below hbb)
              have Bb := hide (B.out.trans (hbb.mono B.out.size))
              clear hbb P Q B H9 c0 c1 c2
              go_wp2_with fail
              go_roundw
              case rel => exact ⟨k2 + 1, by go_num, by omega, by omega, Pb, Qb, Bb⟩
              case measure => simp [intOf]; omega
            · have d2 : decide (k2 < 100) = false := decide_eq_false k2h
              go_wp2_with fail
              go_meet
              case rel => exact ⟨P, Q, B⟩
          · have d1 : decide (k2 < n) = false := decide_eq_false k2n
            go_wp2_with fail
            go_meet
            case rel => exact ⟨P, Q, B⟩
      case rest =>
        clear P Q B hpc
        obtain ⟨P, Q, B⟩ := hcut
        have HL8 := hide (fun W h => at8_low p L W h)
        have HH8 := hide (fun W h => at8_high p L W h hL)
        go_wp2_with fail
        refine (HL8.out _ P.out).mono ?_
        rintro e wa ⟨rfl, hba⟩
        have Pa := hide (P.out.below hba)
        have Qa := hide (Q.out.below hba)
        have Ba := hide (B.out.trans (hba.mono B.out.size))
        clear hba P Q B HL8
        obtain ⟨Aq, cq, hqc⟩ := Qa.out.slice
        go_wp2_with fail
        refine (HH8.out _ Pa.out).mono ?_
        rintro e wb ⟨rfl, hbb⟩
        have Bb := hide (Ba.out.trans (hbb.mono Ba.out.size))
        clear hbb Pa Qa Ba HH8
        go_wp2_with fail
        go_ret
        exact ⟨rfl, Bb.out⟩

/-- The law at any text and any questions. -/
theorem law3 (s : ByteArray) (A : Option Addr) (n cap : Nat) (w : World) (hs : s.size ≤ maxLen) (hn : n ≤ cap) (hask : ∀ k, k < n → AskAt A w k) :
    Calls Tryd.prog 3 #[.string s, .slice A n cap] w fun e w' => e = .returned (.bool true) ∧ Below w.heap.size w w' := by
  rcases h : parse s with ⟨_ | L, c, x⟩
  · exact law3_none s _ c x w hs h
  · obtain ⟨_, rfl, rfl⟩ := parse_small s L c x h
    exact law3_some s A n cap L w hs h hn hask
end Go.Proofs.YtllocmgmilllaaaDoor
