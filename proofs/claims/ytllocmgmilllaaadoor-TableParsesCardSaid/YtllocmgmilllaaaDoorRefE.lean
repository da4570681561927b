/- The reference's entry of a line: its key, lowered, and its value. -/
import Derived.Test.YtllocmgmilllaaaDoorRefS
import Derived.Test.YtllocmgmilllaaaDoorTab
import Derived.Deep.QuietTactic
import Derived.BigQuiet
import Derived.WalkSmall
namespace Go.Proofs.YtllocmgmilllaaaDoor
open Go.RowKit

def klFrom (s : ByteArray) (i : Nat) : Nat := i + ((s.data.toList.drop i).takeWhile fun c => !blankB c).length
theorem klFrom_zero (s : ByteArray) : klFrom s 0 = keyLen s := by unfold klFrom keyLen; rw [List.drop_zero, Nat.zero_add]
theorem klFrom_go {s : ByteArray} {k : Nat} (h : k < s.size) (hb : blankB (bAt s k) = false) : klFrom s (k + 1) = klFrom s k := by
  unfold klFrom
  rw [drop_at h, List.takeWhile_cons_of_pos (by simp [hb]), List.length_cons]
  omega
theorem klFrom_bl {s : ByteArray} {k : Nat} (h : k < s.size) (hb : blankB (bAt s k) = true) : klFrom s k = k := by
  unfold klFrom
  rw [drop_at h, List.takeWhile_cons_of_neg (by simp [hb])]
  rfl
theorem klFrom_end {s : ByteArray} {k : Nat} (h : ¬ k < s.size) : klFrom s k = k := by
  unfold klFrom
  rw [List.drop_eq_nil_of_le (by rw [size_list]; omega)]
  rfl
theorem keyLen_le (s : ByteArray) : keyLen s ≤ s.size := by
  unfold keyLen
  have := (List.takeWhile_prefix (l := s.data.toList) (fun c => !blankB c)).length_le
  rw [size_list] at this
  exact this

/-- Two cells of a block that was laid last, behind a call that leaves what was there. -/
theorem two_new {w w2 : World} {o : Obj} {a b : Value} {T : TypeId} {n : Nat} (hb : Below (((w.alloc o).alloc (.cells #[a, b] T)).drewN n).heap.size (((w.alloc o).alloc (.cells #[a, b] T)).drewN n) w2) :
    w2.cell? ⟨w.heap.size + 1, 0, none⟩ = some a ∧ w2.cell? ⟨w.heap.size + 1, 1, none⟩ = some b ∧ w2.frozen? ⟨w.heap.size + 1, 0, none⟩ = false ∧ w2.frozen? ⟨w.heap.size + 1, 1, none⟩ = false := by
  have hz : (((w.alloc o).alloc (.cells #[a, b] T)).drewN n).heap.size = w.heap.size + 2 := by
    show ((w.heap.push o).push _).size = _
    simp
  have hh : (((w.alloc o).alloc (.cells #[a, b] T)).drewN n).heap[w.heap.size + 1]? = some (.cells #[a, b] T (0, 0)) := by
    show ((w.heap.push o).push _)[w.heap.size + 1]? = _
    rw [Array.getElem?_push, if_pos (by simp)]
  have h2 : w2.heap[w.heap.size + 1]? = some (.cells #[a, b] T (0, 0)) := (hb.block _ (by omega)).trans hh
  exact ⟨by rw [cell_of_row w2 _ 0 _ T (0, 0) h2]; rfl, by rw [cell_of_row w2 _ 1 _ T (0, 0) h2]; rfl, frozen_of_row w2 _ 0 _ T h2, frozen_of_row w2 _ 1 _ T h2⟩

set_option maxHeartbeats 400000 in
set_option maxRecDepth 100000 in
theorem entry14 (at_ : Int) (s : ByteArray) (A : Option Addr) (cap : Nat) (l : List ByteArray) (w : World) (hs : s.size ≤ 262144) (hl : l.length ≤ 262144) (hsum : sumLen l ≤ 1000000)
    (hc : ∀ k, (h : k < l.length) → ∃ b o, A = some ⟨b, o, none⟩ ∧ b < w.heap.size ∧ w.cell? ⟨b, o + k, none⟩ = some (.string l[k])) :
    Calls Tryd.prog 14 #[.agg #[.int .i64 at_, .string s, .slice A l.length cap]] w fun e w' => e = .returned (.agg #[.string (lowS (s.extract 0 (keyLen s))), .string (valGo (trimB (s.extract (keyLen s) s.size)) l)]) ∧ Below w.heap.size w w' := by
  have HC := hide hc
  clear hc
  have HK := hide (keyLen_le s)
  go_enter Tryd.func14, Tryd.ntmps14
  go_wp2
  go_loop [3] (fun i => ∃ k : Nat, k ≤ s.size ∧ i = .int .i64 k ∧ Hid (klFrom s k = keyLen s)) (fun i => s.size - (intOf i).toNat)
  case atStart => exact ⟨0, Nat.zero_le _, rfl, klFrom_zero s⟩
  case round =>
    obtain ⟨k, hk, rfl, HG⟩ := hrel
    by_cases hlt : k < s.size
    · have hd : decide (k < s.size) = true := decide_eq_true hlt
      by_cases hb : blankB (bAt s k) = true
      · have HE : Hid (k = keyLen s) := (klFrom_bl hlt hb).symm.trans HG.out
        have hc : blankB s[k] = true := by rw [← bAt_eq hlt]; exact hb
        have HB := hide (fun W => blank25 s[k] true W hc)
        clear hb hc HG
        go_wp2_with (go_at_call 25; refine (HB.out _).mono ?_; rintro e w' ⟨rfl, rfl⟩)
        have hx1 : (s.extract k s.size).size ≤ 262144 := by rw [ByteArray.size_extract]; omega
        have hx2 : (s.extract 0 k).size ≤ maxLen := by rw [ByteArray.size_extract]; unfold maxLen; omega
        have HV := hide (fun (W : World) (hb : Below w.heap.size w W) => value26 (s.extract k s.size) A cap l W hx1 hl hsum (fun j hj => by
          obtain ⟨b, o, h1, h2, h3⟩ := HC.out j hj
          exact ⟨b, o, h1, cell_kept hb h2 h3⟩))
        have HL := hide (fun (W : World) => lower27 (s.extract 0 k) W hx2)
        have hw0 : ∀ n, Below w.heap.size w (((w.alloc (Obj.cells #[Value.int IntKind.i64 at_, Value.string s, Value.slice A l.length cap] 54)).alloc (Obj.cells #[Value.string { data := #[] }, Value.string { data := #[] }] 40)).drewN n) := fun n => below_drewN (((Below.refl _ _).alloc (Nat.le_refl _) _).alloc (by simp) _) n
        have HW := hide hw0
        clear hx1 hx2 hw0
        generalize hv : valGo (trimB (s.extract k s.size)) l = v at HV
        have HQv := hide hv
        clear hv
        generalize hq : lowS (s.extract 0 k) = q at HL
        have HQq := hide hq
        clear hq
        go_quiet ((go_at_call 26; exact Calls.quiet_of_same ((HV.out _ (HW.out _)).mono fun _ _ h => ⟨h.1, h.2.symm⟩)))
        go_wp2_with fail
        refine (HL.out _).mono ?_
        rintro e w2 ⟨rfl, hb2⟩
        obtain ⟨c0, c1, f0, f1⟩ := two_new hb2
        have HB2 := hide ((HW.out nq).trans (hb2.mono (HW.out nq).size))
        clear hb2
        go_wp2
        refine bodyPost_ret (v := .agg #[.string q, .string v]) (by simp [results, Tryd.results14, go_sem, c0, c1]) rfl ⟨by rw [← HE.out, HQq.out, HQv.out], ?_⟩
        exact (HB2.out.setCell (by simp) _).setCell (by simp) _
      · have hb' : blankB (bAt s k) = false := by simpa using hb
        have HN : Hid (klFrom s (k + 1) = keyLen s) := (klFrom_go hlt hb').trans HG.out
        have hc : blankB s[k] = false := by rw [← bAt_eq hlt]; exact hb'
        have HB := hide (fun W => blank25 s[k] false W hc)
        clear hb hb' hc HG
        go_wp2_with (go_at_call 25; refine (HB.out _).mono ?_; rintro e w' ⟨rfl, rfl⟩)
        go_round
        case rel => exact ⟨k + 1, by omega, by go_num, HN.out⟩
        case measure => simp [intOf]; omega
    · have hd : decide (k < s.size) = false := decide_eq_false hlt
      have HE : Hid (k = keyLen s) := (klFrom_end hlt).symm.trans HG.out
      clear HG
      go_wp2
      have hx1 : (s.extract k s.size).size ≤ 262144 := by rw [ByteArray.size_extract]; omega
      have hx2 : (s.extract 0 k).size ≤ maxLen := by rw [ByteArray.size_extract]; unfold maxLen; omega
      have HV := hide (fun (W : World) (hb : Below w.heap.size w W) => value26 (s.extract k s.size) A cap l W hx1 hl hsum (fun j hj => by
        obtain ⟨b, o, h1, h2, h3⟩ := HC.out j hj
        exact ⟨b, o, h1, cell_kept hb h2 h3⟩))
      have HL := hide (fun (W : World) => lower27 (s.extract 0 k) W hx2)
      have hw0 : ∀ n, Below w.heap.size w (((w.alloc (Obj.cells #[Value.int IntKind.i64 at_, Value.string s, Value.slice A l.length cap] 54)).alloc (Obj.cells #[Value.string { data := #[] }, Value.string { data := #[] }] 40)).drewN n) := fun n => below_drewN (((Below.refl _ _).alloc (Nat.le_refl _) _).alloc (by simp) _) n
      have HW := hide hw0
      clear hx1 hx2 hw0
      generalize hv : valGo (trimB (s.extract k s.size)) l = v at HV
      have HQv := hide hv
      clear hv
      generalize hq : lowS (s.extract 0 k) = q at HL
      have HQq := hide hq
      clear hq
      go_quiet ((go_at_call 26; exact Calls.quiet_of_same ((HV.out _ (HW.out _)).mono fun _ _ h => ⟨h.1, h.2.symm⟩)))
      go_wp2_with fail
      refine (HL.out _).mono ?_
      rintro e w2 ⟨rfl, hb2⟩
      obtain ⟨c0, c1, f0, f1⟩ := two_new hb2
      have HB2 := hide ((HW.out nq).trans (hb2.mono (HW.out nq).size))
      clear hb2
      go_wp2
      refine bodyPost_ret (v := .agg #[.string q, .string v]) (by simp [results, Tryd.results14, go_sem, c0, c1]) rfl ⟨by rw [← HE.out, HQq.out, HQv.out], ?_⟩
      exact (HB2.out.setCell (by simp) _).setCell (by simp) _
end Go.Proofs.YtllocmgmilllaaaDoor
