/- The library's Insert of one entry into a row of entries that the call itself has made: the row with the entry at its place, in the old memory or in new. -/
import Derived.Test.YtllocmgmilllaaaDoorMem
import Derived.Test.YtllocmgmilllaaaDoorTab
import Derived.Shelf.Spec.SlicesInsertGrow
import Derived.Laws.CopyRow
import Derived.Deep.RegionLaw
import Derived.RegionTactic
namespace Go.Proofs.YtllocmgmilllaaaDoor
open Go.RowKit

theorem info69 : (Tryd.prog.info? 69).map (fun i => (i.zero, i.size, i.bytes)) = some (some (.agg #[(.string ⟨#[]⟩), (.string ⟨#[]⟩)]), 2, 32) := by kernel_rfl

def entC (e : Ent) : List Value := [.string e.1, .string e.2]
theorem cellsOf_cons (e : Ent) (L : List Ent) : cellsOf (e :: L) = entC e ++ cellsOf L := rfl
theorem cellsOf_app (L M : List Ent) : cellsOf (L ++ M) = cellsOf L ++ cellsOf M := by unfold cellsOf; rw [List.flatMap_append]
theorem cellsOf_take (L : List Ent) (k : Nat) (h : k ≤ L.length) : cellsOf (L.take k) = (cellsOf L).take (k * 2) := by
  conv => rhs; rw [← List.take_append_drop k L, cellsOf_app]
  rw [List.take_left' (by rw [cellsOf_len, List.length_take]; omega)]
theorem cellsOf_drop (L : List Ent) (k : Nat) (h : k ≤ L.length) : cellsOf (L.drop k) = (cellsOf L).drop (k * 2) := by
  conv => rhs; rw [← List.take_append_drop k L, cellsOf_app]
  rw [List.drop_left' (by rw [cellsOf_len, List.length_take]; omega)]
theorem cellsOf_ins (L : List Ent) (k : Nat) (e : Ent) (h : k ≤ L.length) : cellsOf (insL L k e) = (cellsOf L).take (k * 2) ++ (entC e ++ (cellsOf L).drop (k * 2)) := by
  unfold insL
  rw [cellsOf_app, cellsOf_cons, cellsOf_take L k h, cellsOf_drop L k h]
theorem cellsOf_one (L : List Ent) : ∀ u ∈ cellsOf L, u.oneCell' = true := by
  intro u hu
  unfold cellsOf at hu
  rw [List.mem_flatMap] at hu
  obtain ⟨e, _, h⟩ := hu
  simp at h
  rcases h with rfl | rfl <;> rfl
theorem entC_one (e : Ent) : ∀ u ∈ entC e, u.oneCell' = true := by
  intro u hu
  unfold entC at hu
  simp at hu
  rcases hu with rfl | rfl <;> rfl

/-- copy of entries into a row that is known whole. -/
theorem run_copy_two (w : World) (ty : TypeId) (g off dLen dCap : Nat) (ad : Addr) (sLen sCap : Nat) (cur : Array Value) (T : TypeId) (cs : List Value) (hg : w.heap[g]? = some (.cells cur T (0, 0))) (hn : cs.length = Nat.min sLen dLen * 2)
    (hsrc : ∀ j v, cs[j]? = some v → w.cell? (ad.add j) = some v) (hfit : off + cs.length ≤ cur.size) (h1 : ∀ v ∈ cs, v.oneCell' = true) :
    (Builtin.copy_ #[59, 59] ty #[.slice (some ⟨g, off, none⟩) dLen dCap, .slice (some ad) sLen sCap]).run Tryd.prog w = .ok (goInt (Nat.min sLen dLen)) (w.setRow g (cur.toList.take off ++ cs ++ cur.toList.drop (off + cs.length)).toArray) := by
  obtain ⟨i0, hi0, hz0, hzs, hzb⟩ := info_parts info69
  have hf := run_firstCells_some (P := Tryd.prog) w 2 (Nat.min sLen dLen) ad sLen sCap cs hn hsrc
  have hst := run_storeCells_at Tryd.prog g off T cs 0 cur w hg (by simpa using hfit) h1
  rw [Nat.add_zero] at hst
  simp [Builtin.copy_, run_underlying Tryd.underlying59, Builtin.lenOf, sizeOf, typeInfo, hi0, hzs, Result.andThen, hf, hst]

set_option maxHeartbeats 400000 in
set_option maxRecDepth 100000 in
theorem insert_end (v : Value) (L : List Ent) (e : Ent) (b B : Nat) (w : World) (hown : w.ownsRow B 69 2 v L.length (cellsOf L)) (hB : B ≤ w.heap.size) (hL : L.length ≤ 2000)
    (hb : ∀ j u, (entC e)[j]? = some u → w.cell? ((⟨b, 0, none⟩ : Addr).add j) = some u) :
    Calls Tryd.prog 19 #[v, .int .i64 L.length, .slice (some ⟨b, 0, none⟩) 1 1] w fun r w' => ∃ v', r = .returned v' ∧ w'.ownsRow B 69 2 v' (L.length + 1) (cellsOf (insL L L.length e)) ∧ w.grownBy w' v.ownBlock := by
  obtain ⟨i0, hi0, hz0, hzs, hzb⟩ := info_parts info69
  have hfin : cellsOf (insL L L.length e) = cellsOf L ++ entC e := by
    rw [cellsOf_ins _ _ _ (Nat.le_refl _), List.take_of_length_le (by rw [cellsOf_len]; omega), List.drop_eq_nil_of_le (by rw [cellsOf_len]; omega), List.append_nil]
  rw [hfin]
  obtain ⟨A, cap, rfl⟩ := own_form hown
  have HO := hide hown
  have HC := hide hb
  clear hown hb hfin
  generalize hn : L.length = n at HO hL ⊢
  clear hn
  go_enter Tryd.func19, Tryd.ntmps19
  go_wp2_with (
    at_builtin
    refine wpList_append_own_at _ rfl _ _ 59 rfl B 69 i0 (.agg #[(.string ⟨#[]⟩), (.string ⟨#[]⟩)]) 2 32 Tryd.underlying59 hi0 hz0 hzs hzb rfl (by decide) (.slice A n cap) n (cellsOf L) rfl HO.out ⟨b, 0, none⟩ 1 1 (entC e) rfl rfl HC.out (entC_one e) (by unfold maxLen; omega) (by omega) hB ?_
    intro v' w1 hown' hgrow hnil hloc
    have HW := hide hown'
    have HG := hide hgrow
    clear hown' hgrow hnil hloc)
  all_goals (go_ret; refine ⟨_, rfl, HW.out, ?_⟩; have hG := HG.out; cases A <;> exact hG)

theorem add_lit (g o j : Nat) : (⟨g, o, none⟩ : Addr).add j = ⟨g, o + j, none⟩ := by unfold Addr.add; split <;> simp_all

/-- Two pieces laid over a longer row give the row with the entry. -/
theorem splice_two (C X E : List Value) (k n : Nat) (hC : (C.take (n * 2)).length = n * 2) (hX : X = C.take (n * 2)) (hk : k < n) (hE : E.length = 2) (hlen : (n + 1) * 2 ≤ C.length) :
    ((((C.take ((k + 1) * 2) ++ X.drop (k * 2) ++ C.drop ((k + 1) * 2 + (X.drop (k * 2)).length)).take (k * 2)) ++ E ++ (C.take ((k + 1) * 2) ++ X.drop (k * 2) ++ C.drop ((k + 1) * 2 + (X.drop (k * 2)).length)).drop (k * 2 + E.length))).take ((n + 1) * 2) = X.take (k * 2) ++ (E ++ X.drop (k * 2)) := by
  subst hX
  have h1 : ((C.take (n * 2)).drop (k * 2)).length = n * 2 - k * 2 := by rw [List.length_drop, hC]
  rw [h1, hE]
  have e1 : (C.take ((k + 1) * 2) ++ (C.take (n * 2)).drop (k * 2) ++ C.drop ((k + 1) * 2 + (n * 2 - k * 2))).take (k * 2) = C.take (k * 2) := by
    rw [List.append_assoc, List.take_append_of_le_length (by rw [List.length_take]; omega), List.take_take]
    congr 1
    omega
  have e2 : (C.take ((k + 1) * 2) ++ (C.take (n * 2)).drop (k * 2) ++ C.drop ((k + 1) * 2 + (n * 2 - k * 2))).drop (k * 2 + 2) = (C.take (n * 2)).drop (k * 2) ++ C.drop ((k + 1) * 2 + (n * 2 - k * 2)) := by
    rw [List.append_assoc, List.drop_left' (by rw [List.length_take]; omega)]
  rw [e1, e2, ← List.append_assoc, List.take_left']
  · rw [List.take_take, List.append_assoc]
    congr 2
    omega
  · rw [List.length_append, List.length_append, List.length_take, hE, h1]
    omega

set_option maxHeartbeats 1000000 in
set_option maxRecDepth 100000 in
theorem insert_shift (g cap : Nat) (L : List Ent) (k : Nat) (e : Ent) (b B : Nat) (cb : Array Value) (w : World) (hown : w.ownsRow B 69 2 (.slice (some ⟨g, 0, none⟩) L.length cap) L.length (cellsOf L)) (hk : k < L.length) (hroom : L.length + 1 ≤ cap) (hL : L.length ≤ 2000)
    (hbb : w.heap[b]? = some (.cells cb 69 (0, 0))) (hne : b ≠ g)
    (hb : ∀ j u, (entC e)[j]? = some u → w.cell? ((⟨b, 0, none⟩ : Addr).add j) = some u) :
    Calls Tryd.prog 19 #[.slice (some ⟨g, 0, none⟩) L.length cap, .int .i64 k, .slice (some ⟨b, 0, none⟩) 1 1] w fun r w' => ∃ v', r = .returned v' ∧ w'.ownsRow B 69 2 v' (L.length + 1) (cellsOf (insL L k e)) ∧ w.grownBy w' (some g) := by
  obtain ⟨i0, hi0, hz0, hzs, hzb⟩ := info_parts info69
  rw [cellsOf_ins L k e (by omega)]
  have hlen := cellsOf_len L
  obtain ⟨hx, hrow⟩ := hown
  rcases hrow with ⟨h', _⟩ | ⟨g', cap', cur, h', hBg, hg, _, hcm, hcs, htake⟩
  · simp at h'
  simp only [Value.slice.injEq, Option.some.injEq, Addr.mk.injEq, and_true, true_and] at h'
  obtain ⟨rfl, rfl⟩ := h'
  have hone := cellsOf_one L
  generalize hX : cellsOf L = X at hx htake hlen hone ⊢
  clear hX
  generalize hn : L.length = n at hx htake hlen hk hroom hL ⊢
  clear hn
  have hcn : n * 2 ≤ cur.size := by omega
  have hov : ∀ lb cb2, (callFunc 41 #[.slice (some ⟨b, 0, none⟩) 1 1, .slice (some ⟨g, (k + 1) * 2, none⟩) lb cb2]).run Tryd.prog w = .ok (.value (.bool false)) w := fun lb cb2 => by
    rw [run_callFunc_extern Tryd.func41 (by kernel_rfl) (by kernel_rfl) (by kernel_rfl) (e := Extern.SlicesOverlaps.overlaps #[59, 59] #[4]) (by kernel_rfl),
      Lib.run_overlaps_apart w 59 4 69 Tryd.underlying59 2 Tryd.sizeOf69 ⟨b, 0, none⟩ ⟨g, (k + 1) * 2, none⟩ 1 1 lb cb2 hne 69 69 cb.size cur.size (by simp [World.shape?, hbb]) (by simp [World.shape?, hg]) (by omega) (frozen_of_row w b 0 cb 69 hbb) (frozen_of_row w b _ cb 69 hbb)]
    rfl
  obtain ⟨C2, hC2⟩ : ∃ C2 : List Value, C2 = cur.toList.take ((k + 1) * 2) ++ X.drop (k * 2) ++ cur.toList.drop ((k + 1) * 2 + (X.drop (k * 2)).length) := ⟨_, rfl⟩
  have hcp1 : ∀ (ty : TypeId) (dc sc : Nat), (Builtin.copy_ #[59, 59] ty #[.slice (some ⟨g, (k + 1) * 2, none⟩) (n - k) dc, .slice (some ⟨g, k * 2, none⟩) (n + 1 - k) sc]).run Tryd.prog w.drew = .ok (goInt (Nat.min (n + 1 - k) (n - k))) (w.drew.setRow g C2.toArray) := fun ty dc sc => by
    rw [hC2]
    exact run_copy_two w.drew ty g _ _ _ ⟨g, k * 2, none⟩ _ _ cur 69 (X.drop (k * 2)) hg (by rw [List.length_drop, hlen]; simp only [Nat.min_def]; split <;> omega)
      (fun j u hj => by
        rw [add_lit, cell_of_row w.drew g _ cur 69 (0, 0) hg]
        rw [List.getElem?_drop, ← htake, List.getElem?_take] at hj
        split at hj
        · simpa using hj
        · cases hj) (by rw [List.length_drop, hlen]; omega) (fun u hu => hone u (List.mem_of_mem_drop hu))
  have g2 : (w.drew.setRow g C2.toArray).heap[g]? = some (.cells C2.toArray 69 (0, 0)) := setRow_heap w.drew g cur _ 69 _ hg
  have hC2l : C2.length = cur.size := by
    rw [hC2, List.length_append, List.length_append, List.length_take, List.length_drop, List.length_drop, hlen, Array.length_toList]
    omega
  have hblt : b < w.heap.size := (Array.getElem?_eq_some_iff.1 hbb).1
  obtain ⟨C3, hC3⟩ : ∃ C3 : List Value, C3 = C2.take (k * 2) ++ entC e ++ C2.drop (k * 2 + (entC e).length) := ⟨_, rfl⟩
  have hcp2 : ∀ (ty : TypeId) (dc sc : Nat), (Builtin.copy_ #[59, 59] ty #[.slice (some ⟨g, k * 2, none⟩) (n + 1 - k) dc, .slice (some ⟨b, 0, none⟩) 1 sc]).run Tryd.prog (w.drew.setRow g C2.toArray) = .ok (goInt (Nat.min 1 (n + 1 - k))) ((w.drew.setRow g C2.toArray).setRow g C3.toArray) := fun ty dc sc => by
    rw [hC3]
    have h := run_copy_two (w.drew.setRow g C2.toArray) ty g (k * 2) (n + 1 - k) dc ⟨b, 0, none⟩ 1 sc C2.toArray 69 (entC e) g2 (by simp only [Nat.min_def]; split; rfl; omega)
      (fun j u hj => by
        have h1 := hb j u hj
        rw [← h1]
        refine World.cell?_of_block (w := w) (a := (⟨b, 0, none⟩ : Addr).add j) ?_
        rw [add_lit]
        exact setRow_other w.drew g b _ hne) (by rw [List.size_toArray, hC2l]; show k * 2 + 2 ≤ _; omega) (entC_one e)
    simpa using h
  have hfin := splice_two cur.toList X (entC e) k n (by rw [htake, hlen]) htake.symm hk rfl (by rw [Array.length_toList]; omega)
  rw [← hC2, ← hC3] at hfin
  have HF := hide hfin
  have h3l : C3.length = cap * 2 := by
    rw [hC3, List.length_append, List.length_append, List.length_take, List.length_drop, hC2l]
    show _ + 2 + (_ - (_ + 2)) = _
    omega
  have HG := hide hg
  have H3l := hide h3l
  have HC1 := hide hcp1
  have HCp2 := hide hcp2
  have hd1 : decide (cap < n + 1) = false := decide_eq_false (by omega)
  have hb2 : ¬ (cap = k + 1) := by omega
  have hb3 : (k : Int) ≤ (n : Int) + 1 := by omega
  have hb4 : ¬ (cap = k) := by omega
  have hb5 : ((k : Int) == (n : Int)) = false := beq_eq_false_iff_ne.2 (by omega)
  have hcx : cap ≤ 9223372036854775807 := by unfold maxLen at hcm; omega
  clear hcp1 hcp2 hfin h3l hC2 hC3 hC2l g2 hlen htake hone hcs
  go_enter Tryd.func19, Tryd.ntmps19
  go_wp2_with (simp only [hov])
  have hb6 : (k : Int) + 1 ≤ (n : Int) + 1 := by omega
  have hw1 : IntKind.i64.wrap ((k : Int) + 1) = (k : Int) + 1 := by rw [IntKind.wrap_i64]; omega
  have hb1 : (0 : Int) ≤ (k : Int) + 1 := by omega
  have htn : ((k : Int) + 1).toNat = k + 1 := by omega
  have hsub : n + 1 - (k + 1) = n - k := by omega
  have hr1 := HC1.out
  go_region
  clear hr1 hov
  have hr2 := HCp2.out
  go_wp2
  go_ret
  refine ⟨_, rfl, ⟨?_, .inr ⟨g, cap, C3.toArray, rfl, hBg, setRow_heap _ g C2.toArray _ 69 _ (setRow_heap w.drew g cur _ 69 _ HG.out), hroom, hcm, ?_, HF.out⟩⟩, ?_⟩
  · have h := congrArg List.length HF.out
    rw [List.length_take, H3l.out] at h
    omega
  · rw [List.size_toArray, H3l.out]
  · refine ⟨rfl, rfl, rfl, ?_, fun k' _ hk' => ?_⟩
    · show w.heap.size ≤ ((w.drew.setRow g C2.toArray).setRow g C3.toArray).heap.size
      rw [size_setRow, size_setRow]
      exact Nat.le_refl _
    · have hkg : k' ≠ g := fun e' => hk' (by rw [e'])
      exact (setRow_other _ g k' _ hkg).trans (setRow_other w.drew g k' _ hkg)

/-- A new row, filled piece by piece. -/
theorem splice_new (Z X1 E X2 : List Value) (k m : Nat) (h1 : X1.length = k * 2) (hE : E.length = 2) (h2 : X2.length = m) :
    ((((X1 ++ Z).take (k * 2) ++ E ++ (X1 ++ Z).drop (k * 2 + E.length)).take ((k + 1) * 2)) ++ X2 ++ ((X1 ++ Z).take (k * 2) ++ E ++ (X1 ++ Z).drop (k * 2 + E.length)).drop ((k + 1) * 2 + X2.length)).take ((k + 1) * 2 + m) = X1 ++ (E ++ X2) := by
  have e1 : (X1 ++ Z).take (k * 2) = X1 := List.take_left' h1
  have e2 : (X1 ++ Z).drop (k * 2 + E.length) = Z.drop 2 := by rw [hE, ← h1, List.drop_append, List.drop_eq_nil_of_le (by omega), List.nil_append]; congr 1; omega
  rw [e1, e2]
  have e3 : (X1 ++ E ++ Z.drop 2).take ((k + 1) * 2) = X1 ++ E := List.take_left' (by rw [List.length_append]; omega)
  rw [e3, List.take_left' (by rw [List.length_append, List.length_append]; omega), List.append_assoc]

set_option maxHeartbeats 1000000 in
set_option maxRecDepth 100000 in
theorem insert_grow (g cap : Nat) (L : List Ent) (k : Nat) (e : Ent) (b B : Nat) (w : World) (hown : w.ownsRow B 69 2 (.slice (some ⟨g, 0, none⟩) L.length cap) L.length (cellsOf L)) (hB : B ≤ w.heap.size) (hk : k < L.length) (hroom : cap < L.length + 1) (hL : L.length ≤ 2000)
    (hblt : b < w.heap.size)
    (hb : ∀ j u, (entC e)[j]? = some u → w.cell? ((⟨b, 0, none⟩ : Addr).add j) = some u) :
    Calls Tryd.prog 19 #[.slice (some ⟨g, 0, none⟩) L.length cap, .int .i64 k, .slice (some ⟨b, 0, none⟩) 1 1] w fun r w' => ∃ v', r = .returned v' ∧ w'.ownsRow B 69 2 v' (L.length + 1) (cellsOf (insL L k e)) ∧ w.grownBy w' (some g) := by
  obtain ⟨i0, hi0, hz0, hzs, hzb⟩ := info_parts info69
  rw [cellsOf_ins L k e (by omega)]
  have hlen := cellsOf_len L
  have hcap : L.length ≤ cap := by
    rcases hown.2 with ⟨h', _⟩ | ⟨g', cap', cur, h', _, _, hle, _⟩
    · simp at h'
    · simp only [Value.slice.injEq, Option.some.injEq, Addr.mk.injEq, and_true, true_and] at h'
      obtain ⟨rfl, rfl⟩ := h'
      exact hle
  have hglt : g < w.heap.size := by obtain ⟨_, h⟩ := own_ty hown g rfl; exact (Array.getElem?_eq_some_iff.1 h).1
  have hcell : ∀ j, j < L.length * 2 → w.cell? ⟨g, j, none⟩ = (cellsOf L)[j]? := fun j hj => hown.cellAt j hj
  have hone := cellsOf_one L
  generalize hX : cellsOf L = X at hcell hlen hone ⊢
  clear hX hown
  generalize hn : L.length = n at hcell hlen hk hroom hL hcap ⊢
  clear hn
  obtain rfl : cap = n := by omega
  have hold : (Builtin.firstCells i0.size k (.slice (some ⟨g, 0, none⟩) k cap)).run Tryd.prog w.drew = .ok (X.take (k * 2)).toArray w.drew := by
    rw [hzs]
    exact run_firstCells_some w.drew 2 k ⟨g, 0, none⟩ k cap (X.take (k * 2)) (by rw [List.length_take]; omega) (fun j u hj => by
      rw [add_lit, Nat.zero_add]
      rw [List.getElem?_take] at hj
      split at hj
      · exact (hcell j (by omega)).trans hj
      · cases hj)
  have hsum : k + (cap + 1 - k) = cap + 1 := by omega
  obtain ⟨G, hG⟩ : ∃ G, G = grownCap w (cap + 1) cap 69 := ⟨_, rfl⟩
  have hGn : cap + 1 ≤ G := by rw [hG]; exact grownCap_ge w _ _ _
  have hGm : G ≤ maxLen := by rw [hG]; exact grownCap_le_maxLen w (cap + 1) cap 69 (by unfold maxLen; omega)
  obtain ⟨Z, hZ⟩ : ∃ Z : Array Value, Z = Builtin.zeroCells (Value.agg #[(.string ⟨#[]⟩), (.string ⟨#[]⟩)]).cells (cap + 1 - k) ++ Builtin.zeroCells (Value.agg #[(.string ⟨#[]⟩), (.string ⟨#[]⟩)]).cells (G - (cap + 1)) := ⟨_, rfl⟩
  have hZl : Z.size = (G - k) * 2 := by
    rw [hZ, Array.size_append, size_zeroCells, size_zeroCells]
    show (cap + 1 - k) * 2 + (G - (cap + 1)) * 2 = _
    omega
  obtain ⟨W1, hW1⟩ : ∃ W1 : World, W1 = w.drew.alloc (.cells (X.take (k * 2) ++ Z.toList).toArray 69) := ⟨_, rfl⟩
  have hrz : ∀ ty, (Builtin.append_ #[59, 3] ty #[.slice (some ⟨g, 0, none⟩) k cap, .int .i64 ((cap : Int) + 1 - (k : Int))]).run Tryd.prog w = .ok (.slice (some ⟨w.heap.size, 0, none⟩) (cap + 1) G) W1 := fun ty => by
    have h := Lib.run_append_grow_zeros w 59 3 ty 69 i0 _ .i64 .i64 Tryd.underlying59 Tryd.underlying3 hi0 hz0 (some ⟨g, 0, none⟩) k cap (X.take (k * 2)) hold (cap + 1 - k) (by omega) (by omega) (by omega) (by omega) (by rw [hzb]; omega) (by rw [hzb, hsum]; exact growslice_fits (by omega) (by omega))
    rw [hsum, ← hG] at h
    rw [show (cap : Int) + 1 - (k : Int) = ((cap + 1 - k : Nat) : Int) from by omega, h, hW1, hZ]
    congr 3
    simp [Array.append_assoc]
  have hsz1 : W1.heap.size = w.heap.size + 1 := by rw [hW1]; show (w.heap.push _).size = _; simp
  have hnew1 : W1.heap[w.heap.size]? = some (.cells (X.take (k * 2) ++ Z.toList).toArray 69 (0, 0)) := by rw [hW1]; exact heap_alloc_new w.drew _
  have hold1 : ∀ j, j < w.heap.size → W1.heap[j]? = w.heap[j]? := fun j hj => by rw [hW1]; exact Below.heap_alloc w.drew _ j hj
  have hbel : Below w.heap.size w W1 := by rw [hW1]; exact (Below.refl _ _).drew.alloc (Nat.le_refl _) _
  have hx1 : (X.take (k * 2)).length = k * 2 := by rw [List.length_take]; omega
  have hzl : Z.toList.length = (G - k) * 2 := by rw [Array.length_toList, hZl]
  obtain ⟨C1, hC1⟩ : ∃ C1 : List Value, C1 = X.take (k * 2) ++ Z.toList := ⟨_, rfl⟩
  have hC1l : C1.length = G * 2 := by rw [hC1, List.length_append, hx1, hzl]; omega
  rw [← hC1] at hnew1
  obtain ⟨C2, hC2⟩ : ∃ C2 : List Value, C2 = C1.take (k * 2) ++ entC e ++ C1.drop (k * 2 + (entC e).length) := ⟨_, rfl⟩
  have hel : (entC e).length = 2 := rfl
  have hC2l : C2.length = G * 2 := by
    rw [hC2, List.length_append, List.length_append, List.length_take, List.length_drop, hel, hC1l]
    omega
  have hcpA : ∀ (ty : TypeId) (dc sc : Nat), (Builtin.copy_ #[59, 59] ty #[.slice (some ⟨w.heap.size, k * 2, none⟩) (cap + 1 - k) dc, .slice (some ⟨b, 0, none⟩) 1 sc]).run Tryd.prog W1 = .ok (goInt (Nat.min 1 (cap + 1 - k))) (W1.setRow w.heap.size C2.toArray) := fun ty dc sc => by
    rw [hC2]
    have h := run_copy_two W1 ty w.heap.size (k * 2) (cap + 1 - k) dc ⟨b, 0, none⟩ 1 sc C1.toArray 69 (entC e) hnew1 (by simp only [Nat.min_def]; split; rfl; omega)
      (fun j u hj => by
        rw [← hb j u hj]
        refine World.cell?_of_block (w := w) (a := (⟨b, 0, none⟩ : Addr).add j) ?_
        rw [add_lit]
        exact hold1 b hblt) (by rw [List.size_toArray, hC1l, hel]; omega) (entC_one e)
    simpa using h
  have hnew2 : (W1.setRow w.heap.size C2.toArray).heap[w.heap.size]? = some (.cells C2.toArray 69 (0, 0)) := setRow_heap W1 w.heap.size C1.toArray _ 69 _ hnew1
  have hgne : g ≠ w.heap.size := by omega
  obtain ⟨C3, hC3⟩ : ∃ C3 : List Value, C3 = C2.take ((k + 1) * 2) ++ X.drop (k * 2) ++ C2.drop ((k + 1) * 2 + (X.drop (k * 2)).length) := ⟨_, rfl⟩
  have hdl : (X.drop (k * 2)).length = (cap - k) * 2 := by rw [List.length_drop, hlen]; omega
  have hcpB : ∀ (ty : TypeId) (dc sc : Nat), (Builtin.copy_ #[59, 59] ty #[.slice (some ⟨w.heap.size, (k + 1) * 2, none⟩) (cap - k) dc, .slice (some ⟨g, k * 2, none⟩) (cap - k) sc]).run Tryd.prog (W1.setRow w.heap.size C2.toArray).drew = .ok (goInt (Nat.min (cap - k) (cap - k))) ((W1.setRow w.heap.size C2.toArray).drew.setRow w.heap.size C3.toArray) := fun ty dc sc => by
    rw [hC3]
    have h := run_copy_two (W1.setRow w.heap.size C2.toArray).drew ty w.heap.size ((k + 1) * 2) (cap - k) dc ⟨g, k * 2, none⟩ (cap - k) sc C2.toArray 69 (X.drop (k * 2)) hnew2 (by rw [hdl]; simp only [Nat.min_def]; split <;> omega)
      (fun j u hj => by
        rw [add_lit]
        rw [List.getElem?_drop] at hj
        have hj2 : k * 2 + j < X.length := (List.getElem?_eq_some_iff.1 hj).1
        rw [← hj, ← hcell _ (by omega)]
        refine World.cell?_of_block (w := w) (a := ⟨g, k * 2 + j, none⟩) ?_
        exact (setRow_other W1 w.heap.size g _ hgne).trans (hold1 g hglt)) (by rw [List.size_toArray, hC2l, hdl]; omega) (fun u hu => hone u (List.mem_of_mem_drop hu))
    simpa using h
  have hfin := splice_new Z.toList (X.take (k * 2)) (entC e) (X.drop (k * 2)) k ((cap - k) * 2) hx1 rfl hdl
  rw [← hC1, ← hC2, ← hC3, show (k + 1) * 2 + (cap - k) * 2 = (cap + 1) * 2 from by omega] at hfin
  have hC3l : C3.length = G * 2 := by
    rw [hC3, List.length_append, List.length_append, List.length_take, hdl, List.length_drop, hC2l]
    omega
  have HF := hide hfin
  have HA := hide hcpA
  have HBc := hide hcpB
  have HR := hide hrz
  have H3l := hide hC3l
  have HN2 := hide hnew2
  have HBl := hide hbel
  have hd1 : decide (cap < cap + 1) = true := decide_eq_true (by omega)
  have hb4 : ¬ (cap = k) := by omega
  have hb5 : ((k : Int) == (cap : Int)) = false := beq_eq_false_iff_ne.2 (by omega)
  have hG1 : ¬ (G = k) := by omega
  have hG2 : ¬ (G = k + 1) := by omega
  have hG3 : G ≤ 9223372036854775807 := by unfold maxLen at hGm; omega
  clear hcpA hcpB hrz hC3l hC2l hC1l hfin hC1 hC2 hC3 hdl hel hnew1 hnew2 hold1 hbel hzl hx1 hW1 hZ hZl hG hold hcell hlen hone hsum
  have hr1 := HA.out
  go_enter Tryd.func19, Tryd.ntmps19
  go_wp2_with (at_builtin; refine Lib.wpList_append_run _ rfl _ _ _ _ rfl _ _ rfl rfl _ _ (HR.out _) ?_)
  have hb6 : (k : Int) + 1 ≤ (cap : Int) + 1 := by omega
  have hb7 : (k : Int) ≤ (cap : Int) := by omega
  have hw1 : IntKind.i64.wrap ((k : Int) + 1) = (k : Int) + 1 := by rw [IntKind.wrap_i64]; omega
  have hb1 : (0 : Int) ≤ (k : Int) + 1 := by omega
  have htn : ((k : Int) + 1).toNat = k + 1 := by omega
  have hsub : cap + 1 - (k + 1) = cap - k := by omega
  have hr2 := HBc.out
  go_region
  clear hr1 hr2
  go_wp2
  go_ret
  refine ⟨_, rfl, ⟨?_, .inr ⟨w.heap.size, G, C3.toArray, rfl, hB, setRow_heap _ w.heap.size C2.toArray _ 69 _ HN2.out, hGn, hGm, ?_, HF.out⟩⟩, ?_⟩
  · have h := congrArg List.length HF.out
    rw [List.length_take, H3l.out] at h
    omega
  · rw [List.size_toArray, H3l.out]
  · refine ⟨HBl.out.os, HBl.out.tape, HBl.out.output, ?_, fun k' hk' _ => ?_⟩
    · show w.heap.size ≤ ((W1.setRow w.heap.size C2.toArray).setRow w.heap.size C3.toArray).heap.size
      rw [size_setRow, size_setRow]
      exact HBl.out.size
    · have hkg : k' ≠ w.heap.size := by omega
      exact ((setRow_other _ w.heap.size k' _ hkg).trans (setRow_other W1 w.heap.size k' _ hkg)).trans (HBl.out.block k' hk')

/-- Insert of one entry that lies in a block of its own. -/
theorem insert19 (v : Value) (L : List Ent) (k : Nat) (e : Ent) (b B : Nat) (w : World) (hown : w.ownsRow B 69 2 v L.length (cellsOf L)) (hB : B ≤ w.heap.size) (hk : k ≤ L.length) (hL : L.length ≤ 2000)
    (hbb : w.heap[b]? = some (.cells #[.string e.1, .string e.2] 69 (0, 0))) (hne : v.ownBlock ≠ some b) :
    Calls Tryd.prog 19 #[v, .int .i64 k, .slice (some ⟨b, 0, none⟩) 1 1] w fun r w' => ∃ v', r = .returned v' ∧ w'.ownsRow B 69 2 v' (L.length + 1) (cellsOf (insL L k e)) ∧ w.grownBy w' v.ownBlock := by
  have hb : ∀ j u, (entC e)[j]? = some u → w.cell? ((⟨b, 0, none⟩ : Addr).add j) = some u := fun j u hj => by
    rw [add_lit, Nat.zero_add, cell_of_row w b j _ 69 (0, 0) hbb]
    show (entC e).toArray[j]? = some u
    simpa using hj
  have hblt : b < w.heap.size := (Array.getElem?_eq_some_iff.1 hbb).1
  by_cases hke : k = L.length
  · subst hke
    exact insert_end v L e b B w hown hB hL hb
  · obtain ⟨g, cap, rfl, hc, hg, hglt⟩ := own_some hown (by omega)
    have hne' : b ≠ g := fun e' => hne (by rw [e']; rfl)
    by_cases hr : L.length + 1 ≤ cap
    · exact insert_shift g cap L k e b B _ w hown (by omega) hr hL hbb hne' hb
    · exact insert_grow g cap L k e b B w hown hB (by omega) (by omega) hL hblt hb
end Go.Proofs.YtllocmgmilllaaaDoor
