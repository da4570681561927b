/- For every text and every list of questions, TableParses returns true, and both arguments read behind the call as they read before. Conditions: the two listed tables of Go's library read as the program's text lays them (tied on the card). -/
import Derived.Test.YtllocmgmilllaaaDoorAsk
import Derived.Test.YtllocmgmilllaaaDoorTie
import Derived.Test.YtllocmgmilllaaaDoorCards
import Derived.ProofKit
import Derived.OpenShut
import Derived.Lay
import Derived.Carry
import Derived.SevenTiedAt
import Derived.Stop.Joined
namespace Go.Proofs.YtllocmgmilllaaaDoor
open Go.ChangeShapes Go.WideShapes Go.ChangeAt Go.RowKit Go.ChangeMaps

theorem own : ownKnob Tryd.prog.godebug = none := by kernel_rfl
theorem laidOut : laidOutB Tryd.prog = true := by kernel_rfl

set_option maxRecDepth 100000 in
theorem lifted (os : Os) (started : os.Started) (H : Type) (enc : TypeId × Value → H) :
    ReturnsInHanded {} Tryd.checked os 3 .any (fun w args => (Rows.tableParsesSpec.pre enc Tryd.prog Tryd.f3 [] false w args ∧ laidMetH Tryd.prog Rows.tableParsesRow.laid w) ∧ sizedMet enc Tryd.prog Tryd.f3 (OpenSpec.ofChange Rows.tableParsesSpec) false w args)
      (Rows.tableParsesSpec.post enc Tryd.prog Tryd.f3 false true false false) := by
  refine returnsInHanded_of_change_and (C := Tryd.checked) (X := fun w _ => laidMetH Tryd.prog Rows.tableParsesRow.laid w) (fun _ _ _ hh h => h.of_heap hh) own started (by kernel_rfl) Tryd.func3
    (ChangeSpec.witness_shaped (enc := enc) (C := Tryd.checked) (os := os) (X := fun w _ => laidMetH Tryd.prog Rows.tableParsesRow.laid w) false (World.laidAll Tryd.prog os Rows.tableParsesRow.laid) #[.string ⟨#[]⟩, .slice none 0 0] 8 (World.laidAll_os _ _ _)
      (World.shaped_of_ZipB (by kernel_rfl) (by kernel_rfl)) (by kernel_rfl) (by kernel_rfl) (by kernel_rfl)
      (by rw [MakeChecks.laidMetH_plain _ _ _ (by kernel_rfl)]; exact laidMet_laidAll _ (by kernel_rfl) (by kernel_rfl))) ?_
  intro W base args ds gs before hval0 hW _ hsz _ _
  have hval : ∀ (j : Nat) t v, Tryd.f3.params[j]? = some t → args[j]? = some v → Value.okWide Tryd.prog W .any base t v := hval0
  have hW' := hW
  obtain ⟨p, q, hA0, hV, rfl, _, _⟩ := hW
  have hA : DataW.TrodAll enc Tryd.prog W 0 (fun _ => true) true Tryd.f3.params.toList args.toList ds p := hA0
  have hZ : (DataW.weightsEach Tryd.prog (Tryd.f3.params.toList ++ Rows.tableParsesSpec.plain.varTypes Tryd.prog) (ds ++ gs)).all (· ≤ reachBytes) = true := hsz
  rw [Tryd.params3] at hA hval hZ
  obtain ⟨v0, v1, d0, d1, p0, p1, rfl, rfl, rfl, h0, h1⟩ := trodAll_two hA
  obtain ⟨rfl, rfl⟩ := trodVars_none hV
  have k0 := h0
  have k1 := h1
  obtain ⟨s, rfl, rfl, rfl, hs⟩ := open_string Tryd.underlying9 (hval 0 9 v0 rfl rfl) h0
  have hw : ∀ n ∈ d1.weights Tryd.prog 22, n ≤ reachBytes := fun n hn => by
    have := List.all_eq_true.1 hZ n (by
      show n ∈ DataW.weightsEach Tryd.prog (9 :: 22 :: _) (_ :: d1 :: _)
      rw [DataW.weightsEach, DataW.weightsEach]
      exact List.mem_append_right _ (List.mem_append_left _ hn))
    simpa using this
  obtain ⟨A, n, cap, rfl, hn, hask⟩ := ask_open (hval 1 22 v1 rfl rfl) h1 hw
  have hlt : ∀ x ∈ p1, x.block < W.heap.size := fun x hx => hW'.lt x (by simpa using hx)
  clear hA0 hval0 hsz hZ hw
  refine (law3 s A n cap W hs hn hask).mono fun e W' ⟨he, hb⟩ => ?_
  subst he
  have kb := Below.trod laidOut (by kernel_rfl) (of_decide_eq_true (by kernel_rfl)) k1 hb hlt
  exact ⟨_, rfl, _, _, _, [], _, [], hW', trodAll_mk1 (shut_bool Tryd.underlying4 _), trodAll_mk2 (shut_string Tryd.underlying9 hs) kb, rfl, hb.frame _, fun h => by cases h⟩

theorem row_holds : Rows.TableParsesSaid :=
  OpenClaim.holds_of_wide 3 Tryd.f3 rfl rfl rfl rfl rfl rfl rfl ⟨rfl, rfl, rfl, rfl, rfl⟩ rfl rfl rfl rfl rfl (by kernel_rfl) Tryd.func3 (by kernel_rfl)
    (of_decide_eq_true (by kernel_rfl)) (by unfold Func.isWrapper; first | (rw [if_pos (by decide +kernel)]; kernel_rfl) | (rw [if_neg (by decide +kernel)]; exact ⟨rfl, rfl⟩))
    (fun os started H enc _ => lifted os started H enc)

theorem card_holds : Rows.TableParsesCardSaid :=
  Claim7.holds_tied_plain_at .later [] [.data, .pinned] true (true, "03905f4124594112b05eca74f643aec85d2267c89e83f32666d1904e75850a05") false
    row_holds (fun _ h => by cases h) (by kernel_rfl) (fun _ h => by cases h) tableParses_row_tie rfl ⟨rfl, rfl⟩ (by kernel_rfl) rfl
    (fun f fn hf hfn => by
      obtain rfl : f = 3 := Option.some.inj ((show Tryd.prog.funcNamed "waybill/waybilllaw06.TableParses" = some 3 by kernel_rfl).symm.trans hf) |>.symm
      obtain rfl : fn = Tryd.f3 := (Option.some.inj (Tryd.func3.symm.trans hfn)).symm
      exact ⟨by kernel_rfl, fun j t ht => by
        rw [Tryd.params3] at ht
        have hm : t ∈ [9, 22] := by simpa using Array.mem_of_getElem? ht
        have hall : ([9, 22].all fun u => !Tryd.prog.wantsStandIn u) = true := by kernel_rfl
        exact (show Tryd.prog.wantsStandIn t = false by simpa using List.all_eq_true.1 hall t hm)⟩)
    (by kernel_rfl)
#print axioms card_holds
end Go.Proofs.YtllocmgmilllaaaDoor
