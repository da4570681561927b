/- The library's IndexAny at the two blanks and its IndexFunc at the program's test of a byte, for every text. -/
import Derived.Test.YtllocmgmilllaaaDoorRune
import Derived.Test.YtllocmgmilllaaaDoorLines
import Derived.Shelf.GgClosure.StringsIndexFunc
import Derived.Lib.OthersKept
import Derived.Deep.LoopGhost
namespace Go.Proofs.YtllocmgmilllaaaDoor
open Go.RowKit

theorem get_bAt (s : ByteArray) (k : Nat) : s.get! k = bAt s k := by
  unfold bAt
  cases s with
  | mk d =>
    show d[k]! = _
    by_cases h : k < d.size
    · rw [getElem!_pos d k h, List.getD_eq_getElem?_getD, Array.getElem?_toList, Array.getElem?_eq_getElem h]
      rfl
    · rw [getElem!_neg d k h, List.getD_eq_getElem?_getD, Array.getElem?_toList, Array.getElem?_eq_none (show d.size ≤ k by omega)]
      rfl

theorem high_span (s : ByteArray) (pos : Nat) (h : pos < s.size) (hb : 128 ≤ (bAt s pos).toNat) (j : Nat) (h1 : pos ≤ j) (h2 : j < pos + (Utf8.decode s pos).2) : j < s.size ∧ 128 ≤ (bAt s j).toNat := by
  have cont : ∀ k, (decide (pos + k < s.size) && (bAt s (pos + k)).toNat / 64 == 2) = true → pos + k < s.size ∧ 128 ≤ (bAt s (pos + k)).toNat := by
    intro k hk
    rw [Bool.and_eq_true, decide_eq_true_eq, beq_iff_eq] at hk
    exact ⟨hk.1, by omega⟩
  unfold Utf8.decode at h2
  simp only [get_bAt] at h2
  obtain ⟨d, rfl⟩ : ∃ d, j = pos + d := ⟨j - pos, by omega⟩
  have base : d = 0 → pos + d < s.size ∧ 128 ≤ (bAt s (pos + d)).toNat := fun e => by subst e; exact ⟨h, hb⟩
  rw [if_neg (by rw [Nat.add_zero]; omega)] at h2
  split at h2
  · rename_i hc
    rw [Bool.and_eq_true] at hc
    have c1 := cont 1 hc.2
    split at h2
    · have : d = 0 ∨ d = 1 := by simp only at h2; omega
      rcases this with rfl | rfl
      · exact base rfl
      · exact c1
    · exact base (by simp only at h2; omega)
  · split at h2
    · rename_i hc
      rw [Bool.and_eq_true, Bool.and_eq_true] at hc
      have c1 := cont 1 hc.1.2
      have c2 := cont 2 hc.2
      split at h2
      · have : d = 0 ∨ d = 1 ∨ d = 2 := by simp only at h2; omega
        rcases this with rfl | rfl | rfl
        · exact base rfl
        · exact c1
        · exact c2
      · exact base (by simp only at h2; omega)
    · split at h2
      · rename_i hc
        rw [Bool.and_eq_true, Bool.and_eq_true, Bool.and_eq_true] at hc
        have c1 := cont 1 hc.1.1.2
        have c2 := cont 2 hc.1.2
        have c3 := cont 3 hc.2
        split at h2
        · have : d = 0 ∨ d = 1 ∨ d = 2 ∨ d = 3 := by simp only at h2; omega
          rcases this with rfl | rfl | rfl | rfl
          · exact base rfl
          · exact c1
          · exact c2
          · exact c3
        · exact base (by simp only at h2; omega)
      · exact base (by simp only at h2; omega)

/-- Rune by rune is byte by byte, where no rune beyond ASCII is asked for. -/
theorem idx_bytes (p : Nat → Bool) (s : ByteArray) (hp : ∀ r, 128 ≤ r → p r = false) : ∀ (f pos : Nat), s.size ≤ pos + f → pos ≤ s.size →
    Lib.idxFuncFrom p true s f pos = (if pos + ((s.data.toList.drop pos).takeWhile fun c => !p c.toNat).length < s.size then ((pos + ((s.data.toList.drop pos).takeWhile fun c => !p c.toNat).length : Nat) : Int) else -1) := by
  intro f
  induction f with
  | zero =>
    intro pos h1 h2
    have e : s.data.toList.drop pos = [] := List.drop_eq_nil_of_le (by rw [size_list]; omega)
    rw [e, if_neg (by simp; omega)]
    rfl
  | succ f ih =>
    intro pos h1 h2
    unfold Lib.idxFuncFrom
    by_cases hlt : pos < s.size
    · rw [if_pos hlt]
      by_cases hb : (s[pos]).toNat < 128
      · rw [decode_ascii s pos hlt hb]
        simp only
        have eb : bAt s pos = s[pos] := bAt_eq hlt
        rw [drop_at hlt]
        by_cases hpp : p (s[pos]).toNat = true
        · rw [if_pos hpp, List.takeWhile_cons_of_neg (by rw [eb]; simp [hpp])]
          simp [hlt]
        · rw [if_neg hpp, List.takeWhile_cons_of_pos (by rw [eb]; simpa using hpp), ih (pos + 1) (by omega) (by omega), List.length_cons]
          rw [show pos + 1 + ((s.data.toList.drop (pos + 1)).takeWhile fun c => !p c.toNat).length = pos + (((s.data.toList.drop (pos + 1)).takeWhile fun c => !p c.toNat).length + 1) from by omega]
      · have hb' : 128 ≤ (bAt s pos).toNat := by rw [bAt_eq hlt]; omega
        obtain ⟨r1, r2⟩ := decode_high s pos hlt (by omega)
        have hpr := hp _ r1
        rw [if_neg (by rw [hpr]; simp)]
        have hspan := high_span s pos hlt hb'
        generalize (Utf8.decode s pos).2 = K at r2 hspan
        have hK : pos + K ≤ s.size := by
          have := (hspan (pos + K - 1) (by omega) (by omega)).1
          omega
        rw [ih (pos + K) (by omega) hK]
        have hskip : ∀ d, d ≤ K → pos + ((s.data.toList.drop pos).takeWhile fun c => !p c.toNat).length = pos + d + ((s.data.toList.drop (pos + d)).takeWhile fun c => !p c.toNat).length := by
          intro d
          induction d with
          | zero => intro _; rfl
          | succ d ihd =>
            intro hd
            rw [ihd (by omega)]
            obtain ⟨q1, q2⟩ := hspan (pos + d) (by omega) (by omega)
            rw [drop_at q1, List.takeWhile_cons_of_pos (by simp [hp _ q2]), List.length_cons, show pos + d + 1 = pos + (d + 1) from rfl]
            omega
        rw [hskip K (Nat.le_refl _)]
    · rw [if_neg hlt]
      have e : s.data.toList.drop pos = [] := List.drop_eq_nil_of_le (by rw [size_list]; omega)
      rw [e, if_neg (by simp; omega)]

def blankR (r : Nat) : Bool := decide (r = 32 ∨ r = 9)
theorem blankR_byte (c : UInt8) : blankR c.toNat = blankB c := by
  unfold blankR blankB
  rw [Bool.eq_iff_iff]
  simp only [decide_eq_true_eq, Bool.or_eq_true, beq_iff_eq]
  constructor
  · rintro (h | h)
    · exact .inl (UInt8.toNat_inj.1 h)
    · exact .inr (UInt8.toNat_inj.1 h)
  · rintro (h | h)
    · exact .inl (by rw [h]; rfl)
    · exact .inr (by rw [h]; rfl)

theorem any_idx (s : ByteArray) : Lib.indexAny s.data.toList [32, 9] = Lib.idxFunc blankR true s := by
  unfold Lib.idxFunc
  rw [idx_bytes blankR s (fun r h => by unfold blankR; simp; omega) s.size 0 (by omega) (Nat.zero_le _), anyFrom, List.drop_zero, Nat.zero_add]
  have e : (fun c : UInt8 => !blankR c.toNat) = fun c => !blankB c := by funext c; rw [blankR_byte]
  rw [e, size_list]


set_option maxHeartbeats 400000 in
set_option maxRecDepth 100000 in
theorem any33_short (s : ByteArray) (w : World) (h8 : s.size ≤ 8) :
    Calls Tryd.prog 33 #[.string s, .string ⟨#[32, 9]⟩] w fun e w' => e = .returned (.int .i64 (Lib.indexAny s.data.toList [32, 9])) ∧ Below w.heap.size w w' := by
  rw [any_idx]
  have h8z : decide ((8 : Int) < (s.size : Int)) = false := decide_eq_false (by omega)
  go_enter Tryd.func33, Tryd.ntmps33
  go_wp2
  go_loopg [9, 10] s.size (fun gf _ _ wx => ∃ pos : Nat, wx.heap[w.heap.size]? = some (.stringIter s pos) ∧ Hid (Below w.heap.size w wx) ∧ Hid (Lib.idxFuncFrom blankR true s gf pos = Lib.idxFunc blankR true s) ∧ s.size ≤ pos + gf)
  case atStart => exact ⟨0, World.iter_heap w s 0, (Below.refl _ w).alloc (Nat.le_refl _) _, rfl, by omega⟩
  case round =>
    obtain ⟨pos, hit, HB, HG, hfu⟩ := hrel
    by_cases hps : pos < s.size
    · obtain ⟨g', rfl⟩ : ∃ g', gk = g' + 1 := ⟨gk - 1, by omega⟩
      have hnx : ∀ ty, (Instr.next (.pointer (some ⟨w.heap.size, 0, none⟩)) true ty).run Tryd.prog wr = _ := fun ty => Lib.run_next_any_at wr w.heap.size s pos ty hit hps
      have hwd := Lib.width_pos s pos
      have hrl := Lib.rune_le s pos
      have hleft := HG.out
      obtain ⟨R, hR⟩ : ∃ R, (Utf8.decode s pos).1 = R := ⟨_, rfl⟩
      obtain ⟨K, hK⟩ : ∃ K, (Utf8.decode s pos).2 = K := ⟨_, rfl⟩
      simp only [Lib.idxFuncFrom, hps, if_true, hR, hK] at hleft
      rw [hR, hK] at hnx
      rw [hK] at hwd
      rw [hR] at hrl
      have hit2 := Lib.iterAt_heap wr w.heap.size s pos (pos + K) hit
      have hbw2 := Lib.below_iterAt HB.out (k := w.heap.size) (Nat.le_refl _) s (pos + K)
      obtain ⟨W, hWd⟩ : ∃ W, wr.iterAt w.heap.size s (pos + K) = W := ⟨_, rfl⟩
      rw [hWd] at hnx hit2 hbw2
      have HI2 := hide hit2
      have HB2 := hide hbw2
      have hltW : w.heap.size < W.heap.size := (Array.getElem?_eq_some_iff.1 hit2).1
      clear hit2 hbw2 hWd hR hK HG hit HB
      have HR := hide (rune52 R W hrl)
      by_cases hp : blankR R = true
      · rw [if_pos hp] at hleft
        have HF : Hid ((pos : Int) = Lib.idxFunc blankR true s) := hleft
        have HP := hide hp
        clear hleft hp
        go_wp2_with fail
        refine (HR.out).mono ?_
        rintro e W' ⟨⟨m, rfl, hm⟩, hbc⟩
        have hm0 : 0 ≤ m := hm.2 (by have := HP.out; unfold blankR at this; exact of_decide_eq_true this)
        have HBc := hide hbc
        clear hm hbc
        go_wp2
        go_ret
        exact ⟨by rw [← HF.out]; rfl, HB2.out.trans (HBc.out.mono HB2.out.size)⟩
      · rw [if_neg hp] at hleft
        have HF := hide hleft
        have HP := hide hp
        clear hleft hp
        go_wp2_with fail
        refine (HR.out).mono ?_
        rintro e W' ⟨⟨m, rfl, hm⟩, hbc⟩
        have hm0 : ¬ 0 ≤ m := fun h => HP.out (by unfold blankR; exact decide_eq_true (hm.1 h))
        have hm1 : decide (0 ≤ m) = false := decide_eq_false hm0
        have HBc := hide hbc
        clear hm hbc hm0
        go_wp2
        go_roundg g'
        case measure => omega
        case rel => exact ⟨pos + K, (HBc.out.block _ hltW).trans HI2.out, HB2.out.trans (HBc.out.mono HB2.out.size), HF.out, by omega⟩
    · have hnx : ∀ ty, (Instr.next (.pointer (some ⟨w.heap.size, 0, none⟩)) true ty).run Tryd.prog wr = _ := fun ty => Lib.run_next_end_at wr w.heap.size s pos ty hit hps
      have HF : Hid (Lib.idxFunc blankR true s = -1) := HG.out.symm.trans (Lib.idxFuncFrom_end blankR true s gk pos hps)
      go_wp2
      go_ret
      exact ⟨by rw [HF.out]; rfl, HB.out⟩

/-- IndexAny at the two blanks, of every text. -/
theorem any33 (s : ByteArray) (w : World) (hs : s.size < 4294967281) :
    Calls Tryd.prog 33 #[.string s, .string ⟨#[32, 9]⟩] w fun e w' => e = .returned (.int .i64 (Lib.indexAny s.data.toList [32, 9])) ∧ Below w.heap.size w w' := by
  by_cases h8 : s.size ≤ 8
  · exact any33_short s w h8
  · have hz96 : ∀ w, (zeroValue 96).run Tryd.prog w = .ok (.agg (Array.replicate 256 (.bool false))) w := (Go.zero_of_info (P := Tryd.prog) (t := 96) (v := .agg (Array.replicate 256 (.bool false))) (n := 256) (by kernel_rfl)).1
    refine (Tryd.strings_IndexAny_long hz96 s ⟨#[32, 9]⟩ w (by decide) (by omega) hs (by decide) (Go.Proofs.ascii_of_all (by decide))).mono ?_
    rintro e w' ⟨rfl, rfl⟩
    exact ⟨rfl, ((Below.refl _ _).alloc (Nat.le_refl _) _).alloc (by simp) _⟩
end Go.Proofs.YtllocmgmilllaaaDoor
