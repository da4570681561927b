/- The program's table in memory, and where a key stands in it: the binary search of the library, run with the table's own comparison. -/
import Derived.Test.YtllocmgmilllaaaDoorLow
import Derived.Test.YtllocmgmilllaaaDoorSpec
import Derived.Test.YtllocmgmilllaaaDoorShelf
namespace Go.Proofs.YtllocmgmilllaaaDoor
open Go.RowKit

def cellsOf (L : List Ent) : List Value := L.flatMap fun e => [.string e.1, .string e.2]

theorem cellsOf_len (L : List Ent) : (cellsOf L).length = L.length * 2 := by
  induction L with
  | nil => rfl
  | cons a r ih => simp only [cellsOf, List.flatMap_cons, List.length_append, List.length_cons, List.length_nil] at ih ⊢; omega
theorem cellsOf_get : ∀ (L : List Ent) (k : Nat), k < L.length → (cellsOf L)[k * 2]? = some (.string (keyAt L k)) ∧ (cellsOf L)[k * 2 + 1]? = some (.string (valAt L k))
  | [], k, h => by simp at h
  | a :: r, 0, _ => ⟨rfl, rfl⟩
  | a :: r, k + 1, h => by
    have ih := cellsOf_get r k (by simpa using h)
    have e : cellsOf (a :: r) = [.string a.1, .string a.2] ++ cellsOf r := rfl
    rw [e]
    refine ⟨?_, ?_⟩
    · rw [List.getElem?_append_right (by simp; omega), show (k + 1) * 2 - [Value.string a.1, Value.string a.2].length = k * 2 from by simp; omega, ih.1]
      rfl
    · rw [List.getElem?_append_right (by simp; omega), show (k + 1) * 2 + 1 - [Value.string a.1, Value.string a.2].length = k * 2 + 1 from by simp; omega, ih.2]
      rfl

/-- A slice of entries (type t's) that holds L. -/
def RowAt (t : TypeId) (v : Value) (L : List Ent) (w : World) : Prop := w.ownsRow 0 t 2 v L.length (cellsOf L)

theorem RowAt.below {t : TypeId} {v : Value} {L : List Ent} {w w1 : World} (h : RowAt t v L w) (hb : Below w.heap.size w w1) : RowAt t v L w1 := by
  obtain ⟨h1, h2⟩ := h
  refine ⟨h1, ?_⟩
  rcases h2 with h2 | ⟨g, cap, cur, rfl, hg, hh, r⟩
  · exact .inl h2
  · have hlt : g < w.heap.size := (Array.getElem?_eq_some_iff.1 hh).1
    exact .inr ⟨g, cap, cur, rfl, hg, (hb.block g hlt).trans hh, r⟩

theorem RowAt.form {t : TypeId} {v : Value} {L : List Ent} {w : World} (h : RowAt t v L w) (hp : 0 < L.length) : ∃ g cap, v = .slice (some ⟨g, 0, none⟩) L.length cap ∧ L.length ≤ cap ∧ g < w.heap.size ∧
    ∀ k, k < L.length → w.cell? ⟨g, k * 2, none⟩ = some (.string (keyAt L k)) ∧ w.cell? ⟨g, k * 2 + 1, none⟩ = some (.string (valAt L k)) := by
  obtain ⟨h1, h2⟩ := h
  rcases h2 with ⟨rfl, h2⟩ | ⟨g, cap, cur, rfl, hg, hh, hle, hcm, hcs, ht⟩
  · omega
  · refine ⟨g, cap, rfl, hle, (Array.getElem?_eq_some_iff.1 hh).1, fun k hk => ?_⟩
    obtain ⟨a, b⟩ := cellsOf_get L k hk
    rw [cell_of_row w g _ cur t (0, 0) hh, cell_of_row w g _ cur t (0, 0) hh]
    rw [← ht] at a b
    rw [List.getElem?_take, if_pos (by omega), Array.getElem?_toList] at a b
    exact ⟨a, b⟩
theorem RowAt.slice {t : TypeId} {v : Value} {L : List Ent} {w : World} (h : RowAt t v L w) : ∃ A cap, v = .slice A L.length cap := by
  obtain ⟨h1, h2⟩ := h
  rcases h2 with ⟨rfl, h2⟩ | ⟨g, cap, cur, rfl, _⟩
  · exact ⟨none, 0, by rw [h2]⟩
  · exact ⟨_, cap, rfl⟩

set_option maxHeartbeats 400000 in
theorem place39 (a b key : ByteArray) (w : World) :
    Calls Tryd.prog 39 #[.agg #[.string a, .string b], .string key] w fun e w' => e = .returned (.int .i64 (Lib.compareBytes a.data.toList key.data.toList)) ∧ Below w.heap.size w w' := by
  have hcon := fun W => Tryd.strings_Compare a key W
  generalize Lib.compareBytes a.data.toList key.data.toList = r at hcon ⊢
  go_enter Tryd.func39, Tryd.ntmps39
  go_wp2_with (go_at_call 40; refine (hcon _).mono ?_; rintro e w' ⟨rfl, rfl⟩)
  go_ret
  exact ⟨rfl, (Below.refl _ _).alloc (Nat.le_refl _) _⟩

theorem cell_kept {w wr : World} (hb : Below w.heap.size w wr) {g o : Nat} {u : Value} (hg : g < w.heap.size) (h : w.cell? ⟨g, o, none⟩ = some u) : wr.cell? ⟨g, o, none⟩ = some u := (hb.cell (p := ⟨g, o, none⟩) hg).trans h

set_option maxHeartbeats 400000 in
set_option maxRecDepth 100000 in
theorem bsf38_some (g cap : Nat) (L : List Ent) (key : ByteArray) (w : World) (hg : g < w.heap.size) (hc : ∀ k, k < L.length → w.cell? ⟨g, k * 2, none⟩ = some (.string (keyAt L k)) ∧ w.cell? ⟨g, k * 2 + 1, none⟩ = some (.string (valAt L k))) (hp : 0 < L.length) (hL : L.length ≤ 2000) :
    Calls Tryd.prog 38 #[.slice (some ⟨g, 0, none⟩) L.length cap, .string key, .func (.func 39) #[] #[]] w fun e w' => e = .returned (.tuple #[.int .i64 (placeI L key), .bool (placeB L key)]) ∧ Below w.heap.size w w' := by
  have HC := hide hc
  clear hc
  go_enter Tryd.func38, Tryd.ntmps38
  go_wp2
  go_loopw [9, 10] (fun i j wr => ∃ lo hi f : Nat, i = .int .i64 lo ∧ j = .int .i64 hi ∧ lo ≤ hi ∧ hi ≤ L.length ∧ hi - lo < f ∧ Hid (bsGo L key f lo hi = placeI L key) ∧ Below w.heap.size w wr) (fun i j _ => (intOf j - intOf i).toNat)
  case atStart => exact ⟨0, L.length, L.length + 1, rfl, rfl, Nat.zero_le _, Nat.le_refl _, by omega, rfl, Below.refl _ _⟩
  case round =>
    obtain ⟨lo, hi, f, rfl, rfl, h1, h2, h3, HG, hb⟩ := hrel
    by_cases hlt : lo < hi
    · obtain ⟨c0, c1⟩ := HC.out ((lo + hi) / 2) (by omega)
      have d0 := cell_kept hb hg c0
      have d1 := cell_kept hb hg c1
      clear c0 c1
      have HB := hide hb
      clear hb
      have hcon := place39 (keyAt L ((lo + hi) / 2)) (valAt L ((lo + hi) / 2)) key wr
      have hk := cmp_lt (keyAt L ((lo + hi) / 2)) key
      generalize Lib.compareBytes (keyAt L ((lo + hi) / 2)).data.toList key.data.toList = r at hcon hk
      obtain ⟨f, rfl⟩ : ∃ f', f = f' + 1 := ⟨f - 1, by omega⟩
      by_cases hr : r < 0
      · have HN : Hid (bsGo L key f ((lo + hi) / 2 + 1) hi = placeI L key) := (bs_lt hlt (hk.1 hr)).symm.trans HG.out
        clear hk HG
        have HO := hide hcon
        clear hcon
        go_wp2_with (go_at_call 39; refine (HO.out).mono ?_; rintro e w' ⟨rfl, hb2⟩)
        go_roundw
        case rel => exact ⟨(lo + hi) / 2 + 1, hi, f, by go_num, rfl, by omega, by omega, by omega, HN.out, HB.out.trans (hb2.mono HB.out.size)⟩
        case measure => simp [intOf]; omega
      · have HN : Hid (bsGo L key f lo ((lo + hi) / 2) = placeI L key) := (bs_ge hlt (fun h => hr (hk.2 h))).symm.trans HG.out
        clear hk HG
        have HO := hide hcon
        clear hcon
        go_wp2_with (go_at_call 39; refine (HO.out).mono ?_; rintro e w' ⟨rfl, hb2⟩)
        go_roundw
        case rel => exact ⟨lo, (lo + hi) / 2, f, rfl, by go_num, by omega, by omega, by omega, HN.out, HB.out.trans (hb2.mono HB.out.size)⟩
        case measure => simp [intOf]; omega
    · have HP : Hid (lo = placeI L key) := (bs_end hlt).symm.trans HG.out
      clear HG
      by_cases hl : lo < L.length
      · obtain ⟨c0, c1⟩ := HC.out lo hl
        have d0 := cell_kept hb hg c0
        have d1 := cell_kept hb hg c1
        clear c0 c1
        have HB := hide hb
        clear hb
        have hcon := place39 (keyAt L lo) (valAt L lo) key wr
        have hk := cmp_eq0 (keyAt L lo) key
        have HQ : Hid (placeB L key = decide (Lib.compareBytes (keyAt L lo).data.toList key.data.toList = 0)) := by
          unfold placeB
          rw [← HP.out]
          show _ = _
          simp only [hl, decide_true, Bool.true_and]
          exact decide_eq_decide.2 hk.symm
        clear hk
        generalize Lib.compareBytes (keyAt L lo).data.toList key.data.toList = r at hcon HQ
        have HO := hide hcon
        clear hcon
        go_wp2_with (go_at_call 39; refine (HO.out).mono ?_; rintro e w' ⟨rfl, hb2⟩)
        go_ret2
        refine ⟨?_, HB.out.trans (hb2.mono HB.out.size)⟩
        rw [HQ.out, ← HP.out]
        rfl
      · have hd : decide (lo < L.length) = false := decide_eq_false hl
        go_wp2
        go_ret2
        refine ⟨?_, hb⟩
        have e : placeB L key = false := by unfold placeB; rw [← HP.out]; simp [hl]
        rw [e, ← HP.out]
        rfl
end Go.Proofs.YtllocmgmilllaaaDoor
