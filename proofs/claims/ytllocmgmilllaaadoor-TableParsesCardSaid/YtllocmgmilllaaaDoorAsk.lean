/- The questions that come in, opened: each lies in three cells, and its strings are within the form's reach. -/
import Derived.Test.YtllocmgmilllaaaDoorLaw
import Derived.ProofKit
import Derived.Deep.Slices
namespace Go.Proofs.YtllocmgmilllaaaDoor
open Go.RowKit Go.ChangeShapes Go.WideShapes

theorem weights_mem {H : Type} {P : Program} {e : TypeId} {d : DataW H} {n : Nat} (hn : n ∈ d.weights P e) : ∀ l : List (DataW H), d ∈ l → n ∈ DataW.weightsAll P e l
  | [], h => absurd h List.not_mem_nil
  | x :: r, h => by
    unfold DataW.weightsAll
    rcases List.mem_cons.1 h with rfl | h
    · exact List.mem_append_left _ hn
    · exact List.mem_append_right _ (weights_mem hn r h)

theorem cells9 : Tryd.prog.cellsOf 9 = 1 := by kernel_rfl
theorem cells43 : Tryd.prog.cellsOf 43 = 3 := by kernel_rfl

set_option maxRecDepth 100000 in
theorem ask_open {H : Type} {enc : TypeId × Value → H} {W : World} {r : Reach} {b0 : Nat} {v : Value} {d : DataW H} {p : List MemPlace} (hok : Value.okWide Tryd.prog W r b0 22 v)
    (h : DataW.Trod enc Tryd.prog W 0 (fun _ => true) true 22 v d p) (hw : ∀ n ∈ d.weights Tryd.prog 22, n ≤ reachBytes) :
    ∃ A n cap, v = .slice A n cap ∧ n ≤ cap ∧ ∀ k, k < n → AskAt A W k := by
  obtain ⟨A, n, cap, rfl⟩ := okWide_slice Tryd.underlying22 hok
  obtain ⟨fuel, hf⟩ := h
  rcases Go.Deep.open_slice Tryd.underlying22 hf with ⟨hcs, _⟩ | ⟨a, len, cap', m, f, D, Pl, hcs, _, hl, _, hm, hx, hi⟩
  · simp [Value.cells] at hcs
    obtain ⟨rfl, rfl, rfl⟩ := hcs
    exact ⟨_, _, _, rfl, Nat.le_refl _, fun k hk => absurd hk (Nat.not_lt_zero _)⟩
  · simp [Value.cells] at hcs
    obtain ⟨rfl, rfl, rfl⟩ := hcs
    simp only [Prod.mk.injEq] at hx
    obtain ⟨rfl, _⟩ := hx
    simp only [if_true] at hm
    rw [cells43] at hi
    have hsp : 0 < n → a.spot = none := fun h0 => by
      obtain ⟨cs', hc, _⟩ := hi 0 (by omega)
      obtain ⟨_, hcl, hat⟩ := World.cells?_some hc
      have h1 := hat 0 (by omega)
      rw [Nat.zero_mul, List.getElem?_eq_getElem (show 0 < cs'.length by omega)] at h1
      simpa [Addr.add] using World.cell?_spot h1
    obtain ⟨b, o, sp⟩ := a
    refine ⟨_, _, _, rfl, hl, fun k hk => ?_⟩
    have hs : sp = none := hsp (by omega)
    subst hs
    obtain ⟨cs', hc, ht⟩ := hi k (by omega)
    obtain ⟨_, hcl, hat⟩ := World.cells?_some hc
    obtain ⟨ys, f', _, hy, _, hyl, hfy⟩ := DataW.trod_struct Tryd.underlying43 ht
    have e0 : DataW.trod enc Tryd.prog W 0 (fun _ => true) true f' 9 (List.take (Tryd.prog.cellsOf 9) (List.drop 0 cs')) = ys[0]? := hfy 0 _ rfl
    have e1 : DataW.trod enc Tryd.prog W 0 (fun _ => true) true f' 9 (List.take (Tryd.prog.cellsOf 9) (List.drop 1 cs')) = ys[1]? := hfy 1 _ rfl
    have e2 : DataW.trod enc Tryd.prog W 0 (fun _ => true) true f' 9 (List.take (Tryd.prog.cellsOf 9) (List.drop 2 cs')) = ys[2]? := hfy 2 _ rfl
    rw [cells9] at e0 e1 e2
    match cs', hcl, ys, hyl with
    | [c0, c1, c2], _, [y0, y1, y2], _ =>
      obtain ⟨x, hx0, rfl, hxs⟩ := DataW.trod_string Tryd.underlying9 (show DataW.trod enc Tryd.prog W 0 (fun _ => true) true f' 9 [c0] = some y0 from e0)
      obtain ⟨y, hx1, rfl, _⟩ := DataW.trod_string Tryd.underlying9 (show DataW.trod enc Tryd.prog W 0 (fun _ => true) true f' 9 [c1] = some y1 from e1)
      obtain ⟨z, hx2, rfl, _⟩ := DataW.trod_string Tryd.underlying9 (show DataW.trod enc Tryd.prog W 0 (fun _ => true) true f' 9 [c2] = some y2 from e2)
      simp only [List.cons.injEq, and_true] at hx0 hx1 hx2
      subst hx0 hx1 hx2
      simp only [Prod.mk.injEq] at hy
      have hD : D k = .agg [.lit (.string x.data.toList), .lit (.string y.data.toList), .lit (.string z.data.toList)] := hy.1
      have hmem : D k ∈ (List.range n).map D := List.mem_map.2 ⟨k, List.mem_range.2 hk, rfl⟩
      have hin : ∀ q ∈ (D k).weights Tryd.prog 43, q ≤ reachBytes := fun q hq => hw q (by
        unfold DataW.weights
        rw [Tryd.underlying22]
        exact List.mem_cons_of_mem _ (List.mem_append_left _ (weights_mem hq _ hmem)))
      rw [hD] at hin
      have hwt : (DataW.agg [.lit (.string x.data.toList), .lit (.string y.data.toList), .lit (.string z.data.toList)] : DataW H).weights Tryd.prog 43 = [x.data.toList.length, y.data.toList.length, z.data.toList.length] := by
        unfold DataW.weights
        rw [Tryd.underlying43]
        rfl
      rw [hwt] at hin
      have hy9 := hin y.data.toList.length (by simp)
      have hz9 := hin z.data.toList.length (by simp)
      rw [size_list] at hy9 hz9
      unfold reachBytes at hy9 hz9
      have g0 := hat 0 (by omega)
      have g1 := hat 1 (by omega)
      have g2 := hat 2 (by omega)
      rw [add_lit, add_lit] at g0 g1 g2
      exact ⟨b, o, x, y, z, rfl, cell_lt g0, g0, g1, g2, hxs, by omega⟩

end Go.Proofs.YtllocmgmilllaaaDoor
