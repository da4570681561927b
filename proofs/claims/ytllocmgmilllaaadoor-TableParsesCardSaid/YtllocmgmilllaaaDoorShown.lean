/- The closed examples that the law shows first. -/
import Derived.Test.YtllocmgmilllaaaDoorParse
import Derived.Test.YtllocmgmilllaaaDoorTabC
import Derived.KernelRfl
namespace Go.Proofs.YtllocmgmilllaaaDoor
open Go.RowKit

def exA : ByteArray := ⟨#[97, 32, 98, 10, 32, 32, 99, 10, 35, 32, 120, 10, 46, 69, 120, 97, 109, 112, 108, 101, 46, 111, 114, 103, 32, 32, 32, 115, 109, 116, 112, 58, 91, 104, 93, 10, 64, 120, 32, 121]⟩
def exL : List Ent := [(⟨#[46, 101, 120, 97, 109, 112, 108, 101, 46, 111, 114, 103]⟩, ⟨#[115, 109, 116, 112, 58, 91, 104, 93]⟩), (⟨#[64, 120]⟩, ⟨#[121]⟩), (⟨#[97]⟩, ⟨#[98, 32, 99]⟩)]
theorem exA_parse : parse exA = (some exL, 0, 0) := by kernel_rfl
theorem exB_parse : parse ⟨#[32, 97, 32, 98]⟩ = (none, 61, 0) := by kernel_rfl
theorem exC_parse : parse ⟨#[97, 32, 98, 10, 97, 32, 99]⟩ = (none, 63, 4) := by kernel_rfl
theorem exD1 : dom exL ⟨#[109, 97, 105, 108, 46, 69, 88, 65, 77, 80, 76, 69, 46, 111, 114, 103]⟩ = (⟨#[115, 109, 116, 112, 58, 91, 104, 93]⟩, true) := by kernel_rfl
theorem exD2 : (dom exL ⟨#[101, 120, 97, 109, 112, 108, 101, 46, 111, 114, 103]⟩).2 = false := by kernel_rfl
theorem exAd : addrV exL ⟨#[113]⟩ ⟨#[120]⟩ = ⟨#[121]⟩ ∧ addrB exL ⟨#[113]⟩ ⟨#[120]⟩ = true := ⟨by kernel_rfl, by kernel_rfl⟩
theorem exE : exactV exL ⟨#[65]⟩ = ⟨#[98, 32, 99]⟩ ∧ exactB exL ⟨#[65]⟩ = true := ⟨by kernel_rfl, by kernel_rfl⟩

theorem parse_some (s : ByteArray) (L : List Ent) (h : parse s = (some L, 0, 0)) (hs : s.size ≤ maxLen) (w : World) :
    Calls Tryd.prog 6 #[.string s] w fun e w' => ∃ g, e = .returned (.tuple #[.pointer (some ⟨g, 0, none⟩), .agg #[.int .i64 0, .int .i64 0]]) ∧ TabAt 61 69 g L w' ∧ Below w.heap.size w w' := by
  refine (parse6 s w hs).mono ?_
  rintro e w' ⟨⟨p, rfl, h1⟩, hb⟩
  rw [h] at h1 ⊢
  rcases h1 with ⟨h1, _⟩ | ⟨L', g, h1, rfl, _, ht, _⟩
  · cases h1
  · cases h1
    exact ⟨g, rfl, ht, hb⟩

theorem parse_none (s : ByteArray) (c : Int) (x : Nat) (h : parse s = (none, c, x)) (hs : s.size ≤ maxLen) (w : World) :
    Calls Tryd.prog 6 #[.string s] w fun e w' => e = .returned (.tuple #[.pointer none, .agg #[.int .i64 c, .int .i64 (x : Int)]]) ∧ Below w.heap.size w w' := by
  refine (parse6 s w hs).mono ?_
  rintro e w' ⟨⟨p, rfl, h1⟩, hb⟩
  rw [h] at h1 ⊢
  rcases h1 with ⟨_, rfl⟩ | ⟨L', g, h1, _⟩
  · exact ⟨rfl, hb⟩
  · cases h1

theorem exZ : exL.length = 3 := rfl
theorem exAt : keyAt exL 0 = ⟨#[46, 101, 120, 97, 109, 112, 108, 101, 46, 111, 114, 103]⟩ ∧ valAt exL 0 = ⟨#[115, 109, 116, 112, 58, 91, 104, 93]⟩ := ⟨rfl, rfl⟩

set_option maxHeartbeats 1000000 in
set_option maxRecDepth 100000 in
theorem shown4 (w : World) : Calls Tryd.prog 4 #[] w fun e w' => e = .returned (.bool true) ∧ Below w.heap.size w w' := by
  have HA := hide (fun W => parse_some exA exL exA_parse (by decide) W)
  have HBb := hide (fun W => parse_none ⟨#[32, 97, 32, 98]⟩ 61 0 exB_parse (by decide) W)
  have HCc := hide (fun W => parse_none ⟨#[97, 32, 98, 10, 97, 32, 99]⟩ 63 4 exC_parse (by decide) W)
  have HE : Hid (∀ (p : Nat) (W : World), TabAt 61 69 p exL W → Calls Tryd.prog 12 #[.pointer (some ⟨p, 0, none⟩), .string ⟨#[65]⟩] W fun e w' => e = .returned (.tuple #[.string ⟨#[98, 32, 99]⟩, .bool true]) ∧ Below W.heap.size W w') := fun p W h => by
    have := exact12 p exL ⟨#[65]⟩ W h (by decide) (by decide)
    rw [exE.1, exE.2] at this
    exact this
  have HAd : Hid (∀ (p : Nat) (W : World), TabAt 61 69 p exL W → Calls Tryd.prog 11 #[.pointer (some ⟨p, 0, none⟩), .string ⟨#[113]⟩, .string ⟨#[120]⟩] W fun e w' => e = .returned (.tuple #[.string ⟨#[121]⟩, .bool true]) ∧ Below W.heap.size W w') := fun p W h => by
    have := address11 p exL ⟨#[113]⟩ ⟨#[120]⟩ W h (by decide) (by decide)
    rw [exAd.1, exAd.2] at this
    exact this
  have HD1 : Hid (∀ (p : Nat) (W : World), TabAt 61 69 p exL W → Calls Tryd.prog 10 #[.pointer (some ⟨p, 0, none⟩), .string ⟨#[109, 97, 105, 108, 46, 69, 88, 65, 77, 80, 76, 69, 46, 111, 114, 103]⟩] W fun e w' => e = .returned (.tuple #[.string ⟨#[115, 109, 116, 112, 58, 91, 104, 93]⟩, .bool true]) ∧ Below W.heap.size W w') := fun p W h => by
    have := domain10 p exL ⟨#[109, 97, 105, 108, 46, 69, 88, 65, 77, 80, 76, 69, 46, 111, 114, 103]⟩ W h (by decide) (by decide)
    rw [exD1] at this
    exact this
  have HD2 : Hid (∀ (p : Nat) (W : World), TabAt 61 69 p exL W → Calls Tryd.prog 10 #[.pointer (some ⟨p, 0, none⟩), .string ⟨#[101, 120, 97, 109, 112, 108, 101, 46, 111, 114, 103]⟩] W fun e w' => (∃ v, e = .returned (.tuple #[.string v, .bool false])) ∧ Below W.heap.size W w') := fun p W h => by
    have := domain10 p exL ⟨#[101, 120, 97, 109, 112, 108, 101, 46, 111, 114, 103]⟩ W h (by decide) (by decide)
    rw [exD2] at this
    exact this.mono (fun e w' h => ⟨⟨_, h.1⟩, h.2⟩)
  have H8 : Hid (∀ (p : Nat) (W : World), TabAt 61 69 p exL W → Calls Tryd.prog 8 #[.pointer (some ⟨p, 0, none⟩), .int .i64 0] W fun e w' => e = .returned (.tuple #[.string ⟨#[46, 101, 120, 97, 109, 112, 108, 101, 46, 111, 114, 103]⟩, .string ⟨#[115, 109, 116, 112, 58, 91, 104, 93]⟩, .bool true]) ∧ Below W.heap.size W w') := fun p W h => by
    have := at8_in p exL 0 W h (by decide) (by decide)
    rw [exAt.1, exAt.2] at this
    exact this
  have H7 : Hid (∀ (p : Nat) (W : World), TabAt 61 69 p exL W → Calls Tryd.prog 7 #[.pointer (some ⟨p, 0, none⟩)] W fun e w' => e = .returned (.int .i64 3) ∧ W = w') := fun p W h => (len7 p exL W h).mono (fun e w' h => ⟨h.1, by obtain ⟨_, rfl⟩ := h; rfl⟩)
  go_enter Tryd.func4, Tryd.ntmps4
  go_wp2_with fail
  refine (HA.out _).mono ?_
  rintro e w1 ⟨g, rfl, ht, hb1⟩
  go_upto_region 2 with (fail)
  have hba : Below w.heap.size w (w1.alloc (.cells #[.int .i64 0, .int .i64 0] 27)) := hb1.alloc hb1.size _
  have P1 := hide (ht.below ((Below.refl w1.heap.size w1).alloc (Nat.le_refl _) (.cells #[.int .i64 0, .int .i64 0] 27)))
  have hxb : (w1.alloc (.cells #[.int .i64 0, .int .i64 0] 27)).heap[w1.heap.size]? = some (.cells #[.int .i64 0, .int .i64 0] 27 (0, 0)) := by
    show (w1.heap.push _)[w1.heap.size]? = _
    rw [Array.getElem?_push, if_pos rfl]
  have B1 := hide hba
  clear hba hb1 ht HA
  generalize w1.alloc (.cells #[.int .i64 0, .int .i64 0] 27) = w2 at P1 B1 hxb ⊢
  obtain ⟨f0, f1, -, -⟩ := pair_cells hxb
  clear hxb
  go_wp2_with fail
  refine (H7.out _ _ P1.out).mono ?_
  rintro e w3 ⟨rfl, rfl⟩
  clear H7 f1
  go_wp2_with fail
  refine (HD1.out _ _ P1.out).mono ?_
  rintro e w3 ⟨rfl, hb3⟩
  have P2 := hide (P1.out.below hb3)
  have B2 := hide (B1.out.trans (hb3.mono B1.out.size))
  clear f0 hb3 P1 B1 HD1
  go_wp2_with fail
  refine (HD2.out _ _ P2.out).mono ?_
  rintro e w4 ⟨⟨v5, rfl⟩, hb3⟩
  have P3 := hide (P2.out.below hb3)
  have B3 := hide (B2.out.trans (hb3.mono B2.out.size))
  clear hb3 P2 B2 HD2
  go_wp2_with fail
  refine (HAd.out _ _ P3.out).mono ?_
  rintro e w5 ⟨rfl, hb3⟩
  have P4 := hide (P3.out.below hb3)
  have B4 := hide (B3.out.trans (hb3.mono B3.out.size))
  clear hb3 P3 B3 HAd
  go_wp2_with fail
  refine (HE.out _ _ P4.out).mono ?_
  rintro e w6 ⟨rfl, hb3⟩
  have P5 := hide (P4.out.below hb3)
  have B5 := hide (B4.out.trans (hb3.mono B4.out.size))
  clear hb3 P4 B4 HE
  go_wp2_with fail
  refine (H8.out _ _ P5.out).mono ?_
  rintro e w7 ⟨rfl, hb3⟩
  have B6 := hide (B5.out.trans (hb3.mono B5.out.size))
  clear hb3 P5 B5 H8
  go_wp2_with fail
  refine (HBb.out _).mono ?_
  rintro e w8 ⟨rfl, hb3⟩
  have B7 := hide (B6.out.trans (hb3.mono B6.out.size))
  clear hb3 B6 HBb
  go_upto_region 10 with (fail)
  have B8 : Hid (Below w.heap.size w (w8.alloc (.cells #[.int .i64 61, .int .i64 0] 27))) := B7.out.alloc B7.out.size _
  have hxb : (w8.alloc (.cells #[.int .i64 61, .int .i64 0] 27)).heap[w8.heap.size]? = some (.cells #[.int .i64 61, .int .i64 0] 27 (0, 0)) := by
    show (w8.heap.push _)[w8.heap.size]? = _
    rw [Array.getElem?_push, if_pos rfl]
  have hlt : w8.heap.size < (w8.alloc (.cells #[.int .i64 61, .int .i64 0] 27)).heap.size := by simp
  clear B7
  generalize w8.alloc (.cells #[.int .i64 61, .int .i64 0] 27) = w9 at B8 hxb hlt ⊢
  generalize w8.heap.size = x9 at hxb hlt ⊢
  have HX := hide hxb
  clear hxb
  go_wp2_with fail
  refine (HCc.out _).mono ?_
  rintro e wA ⟨rfl, hb3⟩
  go_upto_region 11 with (fail)
  have B9 : Hid (Below w.heap.size w (wA.alloc (.cells #[.int .i64 63, .int .i64 4] 27))) := (B8.out.trans (hb3.mono B8.out.size)).alloc (Nat.le_trans B8.out.size hb3.size) _
  have hxb : (wA.alloc (.cells #[.int .i64 63, .int .i64 4] 27)).heap[wA.heap.size]? = some (.cells #[.int .i64 63, .int .i64 4] 27 (0, 0)) := by
    show (wA.heap.push _)[wA.heap.size]? = _
    rw [Array.getElem?_push, if_pos rfl]
  have hxc : (wA.alloc (.cells #[.int .i64 63, .int .i64 4] 27)).heap[x9]? = some (.cells #[.int .i64 61, .int .i64 0] 27 (0, 0)) :=
    ((hb3.alloc hb3.size _).block _ hlt).trans HX.out
  clear B8 hb3 hlt HX HCc
  generalize wA.alloc (.cells #[.int .i64 63, .int .i64 4] 27) = wB at B9 hxb hxc ⊢
  generalize wA.heap.size = xA at hxb ⊢
  obtain ⟨r0, r1, -, -⟩ := pair_cells hxb
  obtain ⟨s0, s1, -, -⟩ := pair_cells hxc
  clear hxb hxc
  go_wp2_with fail
  go_ret
  exact ⟨rfl, B9.out⟩
end Go.Proofs.YtllocmgmilllaaaDoor
