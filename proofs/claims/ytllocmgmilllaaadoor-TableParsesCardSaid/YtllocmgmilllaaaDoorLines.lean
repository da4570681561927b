/- The reference's lines of a text: which entries' lines it has, and at which places something is wrong. -/
import Derived.Test.YtllocmgmilllaaaDoorRefS
import Derived.Test.YtllocmgmilllaaaDoorMem
import Derived.Test.YtllocmgmilllaaaDoorTabC
import Derived.Test.YtllocmgmilllaaaDoorGood
import Derived.OwnWalk
import Derived.Deep.DeepCutAuto
import Derived.Deep.CutBlock
namespace Go.Proofs.YtllocmgmilllaaaDoor
open Go.RowKit

def intsV (l : List Nat) : List Value := l.map fun (n : Nat) => Value.int .i64 (n : Int)
theorem intsV_snoc (l : List Nat) (n : Nat) : intsV (l ++ [n]) = intsV l ++ [.int .i64 (n : Int)] := by unfold intsV; rw [List.map_append]; rfl

/-- A row of places of the call's own. -/
def BadAt (B : Nat) (v : Value) (l : List Nat) (w : World) : Prop := w.ownsRow B 3 1 v l.length (intsV l)

theorem info3 : (Tryd.prog.info? 3).map (fun i => (i.zero, i.size, i.bytes)) = some (some (.int .i64 0), 1, 8) := by kernel_rfl
theorem info9 : (Tryd.prog.info? 9).map (fun i => (i.zero, i.size, i.bytes)) = some (some (.string ⟨#[]⟩), 1, 16) := by kernel_rfl
theorem info54 : (Tryd.prog.info? 54).map (fun i => (i.zero, i.size, i.bytes)) = some (some (.agg #[(.int .i64 0), (.string ⟨#[]⟩), (.slice none 0 0)]), 3, 48) := by kernel_rfl

theorem badFrom_len (s : ByteArray) (k : Nat) : (badFrom s k).length ≤ k := by
  unfold badFrom
  have := List.length_filter_le (fun i => badC (bAt s i)) (List.range k)
  rw [List.length_range] at this
  exact this

theorem badC_int (c : UInt8) : badC c = !((((c.toNat : Int) == 9) || ((c.toNat : Int) == 10)) || (decide (32 ≤ (c.toNat : Int)) && decide ((c.toNat : Int) ≤ 126))) := by
  unfold badC
  congr 1
  have e9 : (c == 9) = ((c.toNat : Int) == 9) := by
    rw [Bool.eq_iff_iff]
    simp only [beq_iff_eq]
    exact ⟨fun h => by rw [h]; rfl, fun h => UInt8.toNat_inj.1 (by show c.toNat = 9; omega)⟩
  have e10 : (c == 10) = ((c.toNat : Int) == 10) := by
    rw [Bool.eq_iff_iff]
    simp only [beq_iff_eq]
    exact ⟨fun h => by rw [h]; rfl, fun h => UInt8.toNat_inj.1 (by show c.toNat = 10; omega)⟩
  have e32 : decide (32 ≤ c) = decide (32 ≤ (c.toNat : Int)) := by
    apply decide_eq_decide.2
    rw [UInt8.le_iff_toNat_le]
    show 32 ≤ c.toNat ↔ _
    omega
  have e126 : decide (c ≤ 126) = decide ((c.toNat : Int) ≤ 126) := by
    apply decide_eq_decide.2
    rw [UInt8.le_iff_toNat_le]
    show c.toNat ≤ 126 ↔ _
    omega
  rw [e9, e10, e32, e126]

/-- The cells of a block that has just been laid. -/
theorem cell_news (w : World) (t : TypeId) (l : List Value) : ∀ j u, l[j]? = some u → (w.alloc (.cells l.toArray t)).cell? ((⟨w.heap.size, 0, none⟩ : Addr).add j) = some u := by
  intro j u hj
  have hadd : (⟨w.heap.size, 0, none⟩ : Addr).add j = ⟨w.heap.size, j, none⟩ := by unfold Addr.add; split <;> simp_all
  rw [hadd, cell_of_row _ w.heap.size j l.toArray t (0, 0) (heap_alloc_new w _)]
  simpa using hj

theorem byte_eq {s : ByteArray} {k : Nat} (h : k < s.size) (c : UInt8) (m : Int) (hm : (c.toNat : Int) = m) : ((s[k].toNat : Int) == m) = decide (bAt s k = c) := by
  have := byte_ne h c m hm
  have h2 := congrArg Bool.not this
  simp only [bne, Bool.not_not] at h2
  exact h2

set_option maxHeartbeats 1000000 in
set_option maxRecDepth 100000 in
theorem lines13 (s : ByteArray) (w : World) (hs : s.size ≤ 262144) :
    Calls Tryd.prog 13 #[.string s] w fun e w' => ∃ v u, e = .returned (.tuple #[v, u]) ∧ LinesAt 54 w.heap.size v (linesOf s).1 w' ∧ BadAt w.heap.size u (linesOf s).2 w' ∧ Below w.heap.size w w' := by
  obtain ⟨i3, hi3, hz3, hy3, hb3⟩ := info_parts info3
  obtain ⟨i54, hi54, hz54, hy54, hb54⟩ := info_parts info54
  obtain ⟨i9, hi9, hz9, hy9, hb9⟩ := info_parts info9
  go_enter Tryd.func13, Tryd.ntmps13
  go_wp2
  go_loopw [5, 6] (fun v i wr => ∃ k : Nat, k ≤ s.size ∧ i = .int .i64 k ∧ Hid (BadAt w.heap.size v (badFrom s k) wr) ∧ Hid (Below w.heap.size w wr)) (fun _ i _ => s.size - (intOf i).toNat)
  case atStart => exact ⟨0, Nat.zero_le _, rfl, World.ownsRow_nil _ _ _ _, Below.refl _ _⟩
  case round =>
    obtain ⟨k, hk, rfl, HBa, HB⟩ := hrel
    by_cases hlt : k < s.size
    · obtain ⟨hc0, hc1⟩ := u8_bd s[k]
      by_cases h9 : (s[k].toNat : Int) = 9
      · have e9 : ((s[k].toNat : Int) == 9) = true := beq_iff_eq.2 h9
        have hbad : badC (bAt s k) = false := by rw [bAt_eq hlt, badC_int, e9]; rfl
        have HN : Hid (BadAt w.heap.size u5 (badFrom s (k + 1)) wr) := by
          have e : badFrom s (k + 1) = badFrom s k := by rw [badFrom_succ, hbad]; rfl
          rw [e]
          exact HBa.out
        clear hbad HBa h9
        go_wp2
        go_roundw
        case rel => exact ⟨k + 1, by omega, by go_num, HN, HB⟩
        case measure => simp [intOf]; omega
      · have e9 : ((s[k].toNat : Int) == 9) = false := beq_eq_false_iff_ne.2 h9
        by_cases h10 : (s[k].toNat : Int) = 10
        · have e10 : ((s[k].toNat : Int) == 10) = true := beq_iff_eq.2 h10
          have hbad : badC (bAt s k) = false := by rw [bAt_eq hlt, badC_int, e9, e10]; rfl
          have HN : Hid (BadAt w.heap.size u5 (badFrom s (k + 1)) wr) := by
            have e : badFrom s (k + 1) = badFrom s k := by rw [badFrom_succ, hbad]; rfl
            rw [e]
            exact HBa.out
          clear hbad HBa h9 h10
          go_wp2
          go_roundw
          case rel => exact ⟨k + 1, by omega, by go_num, HN, HB⟩
          case measure => simp [intOf]; omega
        · have e10 : ((s[k].toNat : Int) == 10) = false := beq_eq_false_iff_ne.2 h10
          by_cases h32 : 32 ≤ (s[k].toNat : Int)
          · have d32 : decide (32 ≤ (s[k].toNat : Int)) = true := decide_eq_true h32
            by_cases h126 : (s[k].toNat : Int) ≤ 126
            · have d126 : decide ((s[k].toNat : Int) ≤ 126) = true := decide_eq_true h126
              have hbad : badC (bAt s k) = false := by rw [bAt_eq hlt, badC_int, e9, e10, d32, d126]; rfl
              have HN : Hid (BadAt w.heap.size u5 (badFrom s (k + 1)) wr) := by
                have e : badFrom s (k + 1) = badFrom s k := by rw [badFrom_succ, hbad]; rfl
                rw [e]
                exact HBa.out
              clear hbad HBa
              go_wp2
              go_roundw
              case rel => exact ⟨k + 1, by omega, by go_num, HN, HB⟩
              case measure => simp [intOf]; omega
            · have d126 : decide ((s[k].toNat : Int) ≤ 126) = false := decide_eq_false h126
              have hbad : badC (bAt s k) = true := by rw [bAt_eq hlt, badC_int, e9, e10, d32, d126]; rfl
              have HE : Hid (badFrom s (k + 1) = badFrom s k ++ [k]) := by
                show badFrom s (k + 1) = _
                rw [badFrom_succ, hbad]
                rfl
              have HO : Hid (wr.ownsRow w.heap.size 3 1 u5 (badFrom s k).length (intsV (badFrom s k))) := HBa
              have hlen := badFrom_len s k
              clear hbad HBa
              have hz : w.heap.size ≤ wr.heap.size := HB.out.size
              go_wp2_with (at_builtin; refine wpList_append_own_at _ rfl _ _ 49 rfl w.heap.size 3 i3 (.int .i64 0) 1 8 Tryd.underlying49 hi3 hz3 hy3 hb3 rfl (by decide) u5 _ _ rfl ((HO.out).alloc _) ⟨wr.heap.size, 0, none⟩ 1 1 [.int .i64 (k : Int)] rfl rfl (cell_one_new _ _ _) (ints_oneCell .i64 [(k : Int)]) (by unfold maxLen; omega) (by omega) (by simp; omega) ?_; intro v' w1 hown' hgrow hnil hloc)
              have HN : Hid (BadAt w.heap.size v' (badFrom s (k + 1)) w1) := by
                rw [HE.out]
                show w1.ownsRow w.heap.size 3 1 v' (badFrom s k ++ [k]).length (intsV (badFrom s k ++ [k]))
                rw [List.length_append, List.length_singleton, intsV_snoc]
                exact hown'
              have HB2 : Hid (Below w.heap.size w w1) := (HB.out.alloc hz _).grown hgrow (by simp; omega) (fun k' e => by
                exact (((HO.out).alloc (.cells #[.int .i64 (k : Int)] 3)).lt k' e).1)
              clear hown' hgrow hnil hloc
              go_roundw
              case rel => exact ⟨k + 1, by omega, by go_num, HN, HB2⟩
              case measure => simp [intOf]; omega
          · have d32 : decide (32 ≤ (s[k].toNat : Int)) = false := decide_eq_false h32
            have hbad : badC (bAt s k) = true := by rw [bAt_eq hlt, badC_int, e9, e10, d32]; rfl
            have HE : Hid (badFrom s (k + 1) = badFrom s k ++ [k]) := by
              show badFrom s (k + 1) = _
              rw [badFrom_succ, hbad]
              rfl
            have HO : Hid (wr.ownsRow w.heap.size 3 1 u5 (badFrom s k).length (intsV (badFrom s k))) := HBa
            have hlen := badFrom_len s k
            clear hbad HBa
            have hz : w.heap.size ≤ wr.heap.size := HB.out.size
            go_wp2_with (at_builtin; refine wpList_append_own_at _ rfl _ _ 49 rfl w.heap.size 3 i3 (.int .i64 0) 1 8 Tryd.underlying49 hi3 hz3 hy3 hb3 rfl (by decide) u5 _ _ rfl ((HO.out).alloc _) ⟨wr.heap.size, 0, none⟩ 1 1 [.int .i64 (k : Int)] rfl rfl (cell_one_new _ _ _) (ints_oneCell .i64 [(k : Int)]) (by unfold maxLen; omega) (by omega) (by simp; omega) ?_; intro v' w1 hown' hgrow hnil hloc)
            have HN : Hid (BadAt w.heap.size v' (badFrom s (k + 1)) w1) := by
              rw [HE.out]
              show w1.ownsRow w.heap.size 3 1 v' (badFrom s k ++ [k]).length (intsV (badFrom s k ++ [k]))
              rw [List.length_append, List.length_singleton, intsV_snoc]
              exact hown'
            have HB2 : Hid (Below w.heap.size w w1) := (HB.out.alloc hz _).grown hgrow (by simp; omega) (fun k' e => by
              exact (((HO.out).alloc (.cells #[.int .i64 (k : Int)] 3)).lt k' e).1)
            clear hown' hgrow hnil hloc
            go_roundw
            case rel => exact ⟨k + 1, by omega, by go_num, HN, HB2⟩
            case measure => simp [intOf]; omega
    · obtain rfl : k = s.size := by omega
      clear hlt hk
      have HBs := HBa
      have HBb := HB
      clear HBa HB
      go_wp2
      go_loopw [4, 5, 8] (fun v u a wr => ∃ (i f : Nat) (out : List Line) (bad : List Nat), a = .int .i64 i ∧ i ≤ s.size + 1 ∧ s.size - i < f ∧ bad.length ≤ s.size + i ∧ Hid (linesGo s f i out bad = linesOf s) ∧ Hid (Good s i out) ∧ Hid (LinesAt 54 w.heap.size v out wr) ∧ Hid (BadAt w.heap.size u bad wr) ∧ Hid (Below w.heap.size w wr)) (fun _ _ a _ => s.size + 1 - (intOf a).toNat)
      case atStart => exact ⟨0, s.size + 1, [], badFrom s s.size, rfl, by omega, by omega, badFrom_len s s.size, rfl, Good.nil s 0, LinesAt.nil _ _ _, HBs, HBb⟩
      case round =>
        clear HBs HBb
        obtain ⟨i, f, out, bad, rfl, hi, hf, hbl, HG, HGo, HLi, HBa, HB⟩ := hrel
        by_cases hlt : i < s.size
        · obtain ⟨f, rfl⟩ : ∃ f', f = f' + 1 := ⟨f - 1, by omega⟩
          have HN : Hid (linesGo s f (endOf s i + 1) (lineStep s i out bad).1 (lineStep s i out bad).2 = linesOf s) := by
            have h := HG.out
            unfold linesGo at h
            rw [if_pos hlt] at h
            exact h
          have HGn := hide (Good.step HGo.out hlt bad)
          have HBn := hide (bad_step s i out bad)
          have HEe := hide (endOf_le s i (Nat.le_of_lt hlt))
          clear HG
          go_upto_block 4 with (fail)
          go_cut [9] (fun v9 wc => wr = wc ∧ ∃ j : Nat, v9 = .int .i64 j ∧ Hid (j = endOf s i))
          case first =>
            go_wp2_with fail
            go_loop [9] (fun v9 => ∃ j : Nat, v9 = .int .i64 j ∧ j ≤ s.size ∧ Hid (endOf s j = endOf s i)) (fun v9 => s.size - (intOf v9).toNat)
            case atStart => exact ⟨i, rfl, by omega, rfl⟩
            case round =>
              obtain ⟨j, rfl, hj, HJ⟩ := hrel
              by_cases jlt : j < s.size
              · have jd : decide (j < s.size) = true := decide_eq_true jlt
                by_cases jb : bAt s j = 10
                · have jb1 : ((s[j].toNat : Int) != 10) = false := by rw [byte_ne jlt 10 10 rfl]; simp [jb]
                  have HJe : Hid (j = endOf s i) := (endOf_nl jlt jb).symm.trans HJ.out
                  clear jb HJ
                  go_wp2_with fail
                  go_meet
                  case rel => exact ⟨rfl, j, rfl, HJe⟩
                · have jb1 : ((s[j].toNat : Int) != 10) = true := by rw [byte_ne jlt 10 10 rfl]; simp [jb]
                  have HJe : Hid (endOf s (j + 1) = endOf s i) := (endOf_go jlt jb).trans HJ.out
                  clear jb HJ
                  go_wp2_with fail
                  go_round
                  case rel => exact ⟨j + 1, by go_num, by omega, HJe⟩
                  case measure => simp [intOf]; omega
              · have jd : decide (j < s.size) = false := decide_eq_false jlt
                have HJe : Hid (j = endOf s i) := (endOf_end jlt).symm.trans HJ.out
                clear HJ
                go_wp2_with fail
                go_meet
                case rel => exact ⟨rfl, j, rfl, HJe⟩
          case rest =>
            obtain ⟨rfl, j, rfl, HJ⟩ := hcut
            have hj1 : i ≤ j := by rw [HJ.out]; exact HEe.out.1
            have hj2 : j ≤ s.size := by rw [HJ.out]; exact HEe.out.2
            clear HEe
            rw [← HJ.out] at HN HGn
            have HSt : Hid (lineStep s i out bad = if skipB (trimB (s.extract i j)) = true then (out, bad)
                else if blankB (bAt (s.extract i j) 0) = true then (if out = [] then (out, bad ++ [i]) else (addLast out (trimB (s.extract i j)), bad))
                else (out ++ [(i, s.extract i j, [])], bad)) := by rw [HJ.out]; rfl
            have hlz : (s.extract i j).size ≤ 262144 := by rw [ByteArray.size_extract]; omega
            have HTr := hide (fun W => trim24 (s.extract i j) W (by unfold maxLen; omega))
            have HTl := hide (trimB_le (s.extract i j))
            generalize hln : s.extract i j = line at HSt HTr HTl hlz
            have HLn := hide hln
            clear hln
            generalize trimB line = t at HSt HTr HTl
            by_cases h0 : t.size = 0
            · have HS2 : Hid (lineStep s i out bad = (out, bad)) := by rw [HSt.out, if_pos (by unfold skipB; rw [h0]; rfl)]; rfl
              rw [HS2.out] at HN HGn HBn
              clear HSt
              have he := emp_list h0
              go_wp2_with fail
              rw [HLn.out]
              refine (HTr.out _).mono ?_
              rintro e w' ⟨rfl, rfl⟩
              go_wp2
              go_roundw
              case rel => exact ⟨j + 1, f, out, bad, by go_num, by omega, by omega, by omega, HN.out, HGn.out, HLi, HBa, HB⟩
              case measure => simp [intOf]; omega
            · have he := nemp_list h0
              have h1 : 0 < t.size := by omega
              have h2 : 0 < line.size := by have := HTl.out; omega
              by_cases h35 : bAt t 0 = 35
              · have HS2 : Hid (lineStep s i out bad = (out, bad)) := by rw [HSt.out, if_pos (by unfold skipB; rw [h35]; simp)]; rfl
                rw [HS2.out] at HN HGn HBn
                clear HSt
                have b35 : ((t[0].toNat : Int) == 35) = true := by rw [byte_eq h1 35 35 rfl]; simp [h35]
                clear h35
                go_wp2_with fail
                rw [HLn.out]
                refine (HTr.out _).mono ?_
                rintro e w' ⟨rfl, rfl⟩
                go_wp2
                go_roundw
                case rel => exact ⟨j + 1, f, out, bad, by go_num, by omega, by omega, by omega, HN.out, HGn.out, HLi, HBa, HB⟩
                case measure => simp [intOf]; omega
              · have hns : ¬ skipB t = true := by
                  unfold skipB
                  simp [h0, h35]
                have b35 : ((t[0].toNat : Int) == 35) = false := by rw [byte_eq h1 35 35 rfl]; simp [h35]
                clear h35
                by_cases hbl2 : blankB (bAt line 0) = true
                · have hbk : blankB line[0] = true := by rw [← bAt_eq h2]; exact hbl2
                  have HBk := hide (fun W => blank25 line[0] true W hbk)
                  by_cases hout : out = []
                  · subst hout
                    have HS2 : Hid (lineStep s i [] bad = ([], bad ++ [i])) := by rw [HSt.out, if_neg hns, if_pos hbl2, if_pos rfl]; rfl
                    rw [HS2.out] at HN HGn HBn
                    clear HSt hns hbk hbl2
                    obtain ⟨A, cap, hv⟩ := LinesAt.form HLi.out
                    subst hv
                    have HO : Hid (wr.ownsRow w.heap.size 3 1 u5 bad.length (intsV bad)) := HBa
                    clear HBa
                    have hz : w.heap.size ≤ wr.heap.size := HB.out.size
                    go_wp2_with fail
                    rw [HLn.out]
                    refine (HTr.out _).mono ?_
                    rintro e w' ⟨rfl, rfl⟩
                    go_wp2_with fail
                    refine (HBk.out _).mono ?_
                    rintro e w' ⟨rfl, rfl⟩
                    go_wp2_with (at_builtin; refine wpList_append_own_at _ rfl _ _ 49 rfl w.heap.size 3 i3 (.int .i64 0) 1 8 Tryd.underlying49 hi3 hz3 hy3 hb3 rfl (by decide) u5 _ _ rfl ((HO.out).alloc _) ⟨wr.heap.size, 0, none⟩ 1 1 [.int .i64 (i : Int)] rfl rfl (cell_one_new _ _ _) (ints_oneCell .i64 [(i : Int)]) (by unfold maxLen; omega) (by omega) (by simp; omega) ?_; intro v' w1 hown' hgrow hnil hloc)
                    have HBa2 : Hid (BadAt w.heap.size v' (bad ++ [i]) w1) := by
                      show w1.ownsRow w.heap.size 3 1 v' (bad ++ [i]).length (intsV (bad ++ [i]))
                      rw [List.length_append, List.length_singleton, intsV_snoc]
                      exact hown'
                    have HB2 : Hid (Below w.heap.size w w1) := (HB.out.alloc hz _).grown hgrow (by simp; omega) (fun k' e => by
                      exact (((HO.out).alloc (.cells #[.int .i64 (i : Int)] 3)).lt k' e).1)
                    have HLi2 : Hid (LinesAt 54 w.heap.size (.slice A 0 cap) [] w1) := (LinesAt.below HLi.out ((Below.refl _ _).alloc (Nat.le_refl _) _)).grown ((HO.out).alloc (.cells #[.int .i64 (i : Int)] 3)) hgrow (by decide) (by decide)
                    clear hown' hgrow hnil hloc
                    go_roundw
                    case rel => exact ⟨j + 1, f, [], bad ++ [i], by go_num, by omega, by omega, by have := HBn.out; omega, HN.out, HGn.out, HLi2, HBa2, HB2⟩
                    case measure => simp [intOf]; omega
                  · have HS2 : Hid (lineStep s i out bad = (addLast out t, bad)) := by rw [HSt.out, if_neg hns, if_pos hbl2, if_neg hout]; rfl
                    rw [HS2.out] at HN HGn HBn
                    obtain ⟨ps, hps, hown, hin, hpw⟩ := HLi.out
                    rcases List.eq_nil_or_concat ps with rfl | ⟨ps0, ⟨l, f0⟩, rfl⟩
                    · exact absurd hps.symm hout
                    · rw [List.concat_eq_append] at hps hown hin hpw
                      rw [List.length_append, List.length_singleton] at hown
                      have hlm : (l, f0) ∈ ps0 ++ [(l, f0)] := List.mem_append_right _ (List.mem_singleton.2 rfl)
                      have hl0 := hin (l, f0) hlm
                      obtain ⟨A0, cap0, hf0⟩ := own_form hl0
                      have hf0' : f0 = .slice A0 l.2.2.length cap0 := hf0
                      subst hf0'
                      clear hf0
                      obtain ⟨g, cap, hv, hcap, hgB, hglt⟩ := own_some hown (Nat.succ_pos _)
                      subst hv
                      rw [List.map_append, List.map_singleton] at hps
                      subst hps
                      have hcell : wr.cell? ⟨g, ps0.length * 3 + 2, none⟩ = some (.slice A0 l.2.2.length cap0) := by
                        rw [hown.cellAt _ (by omega), rowC_snoc, List.getElem?_append_right (by rw [rowC_len]; omega), rowC_len, show ps0.length * 3 + 2 - ps0.length * 3 = 2 from by omega]
                        rfl
                      have hfz := hown.frozenAt (ps0.length * 3 + 2)
                      have hpl : ps0.length + 1 ≤ i := by have := HGo.out.len; rw [List.length_append, List.length_singleton, List.length_map] at this; exact this
                      have hpc : l.2.2.length ≤ i := Nat.le_trans (len_sumLen _) (HGo.out.pcs l (List.mem_append_right _ (List.mem_singleton.2 rfl)))
                      have HOw := hide hown
                      have HL0 := hide hl0
                      have HI := hide (fun p hp => hin p (List.mem_append_left _ hp))
                      have HPw := hide hpw
                      clear hown hl0 hin hpw HLi hlm hout HSt hns hbk hbl2
                      have hz : w.heap.size ≤ wr.heap.size := HB.out.size
                      go_wp2_with fail
                      rw [HLn.out]
                      refine (HTr.out _).mono ?_
                      rintro e w' ⟨rfl, rfl⟩
                      go_wp2_with fail
                      refine (HBk.out _).mono ?_
                      rintro e w' ⟨rfl, rfl⟩
                      go_wp2_with fail
                      refine (HBk.out _).mono ?_
                      rintro e w' ⟨rfl, rfl⟩
                      go_wp2_with (
                        at_builtin
                        refine wpList_append_own_at _ rfl _ _ 52 rfl w.heap.size 9 i9 (.string ⟨#[]⟩) 1 16 Tryd.underlying52 hi9 hz9 hy9 hb9 rfl (by decide) (.slice A0 l.2.2.length cap0) _ _ rfl (World.ownsRow.alloc HL0.out (.cells #[.string t] 9)) ⟨wr.heap.size, 0, none⟩ 1 1 [.string t] rfl rfl (cell_one_new _ _ _) (by intro u hu; simp at hu; subst hu; rfl) (by unfold maxLen; omega) (by omega) (by simp; omega) ?_
                        intro v' w1 hown' hgrow hnil hloc
                        have hex := own_form hown'
                        have HOa := World.ownsRow.alloc HOw.out (.cells #[.string t] 9)
                        have HLa := World.ownsRow.alloc HL0.out (.cells #[.string t] 9)
                        have HO1 := grown_other_ty HLa HOa (by decide) hgrow
                        have hcell1 : w1.cell? ⟨g, ps0.length * 3 + 2, none⟩ = some (.slice A0 l.2.2.length cap0) := by
                          rw [HO1.cellAt _ (by omega), rowC_snoc, List.getElem?_append_right (by rw [rowC_len]; omega), rowC_len, show ps0.length * 3 + 2 - ps0.length * 3 = 2 from by omega]
                          rfl
                        have hfz1 := HO1.frozenAt (ps0.length * 3 + 2)
                        have HLi2 := hide (LinesAt.added (by decide) HOa (fun p hp => World.ownsRow.alloc (HI.out p hp) (.cells #[.string t] 9)) HLa HPw.out t hown' hgrow (hloc.imp id fun h => ⟨_, h, Nat.le_refl _⟩))
                        have hb : wr.ownsRow w.heap.size 3 1 u5 bad.length (intsV bad) := HBa.out
                        have HBa2 : Hid (BadAt w.heap.size u5 bad (w1.setCell ⟨g, ps0.length * 3 + 2, none⟩ v')) := set_other_ty HO1 (grown_other_ty HLa (World.ownsRow.alloc hb _) (by decide) hgrow) (by decide)
                        have HB2 : Hid (Below w.heap.size w (w1.setCell ⟨g, ps0.length * 3 + 2, none⟩ v')) := ((HB.out.alloc hz _).grown hgrow (by simp; omega) (fun k' e => (HLa.lt k' e).1)).setCell hgB _
                        have HA := hide (addLast_snoc (ps0.map Prod.fst) l t)
                        rw [HA.out] at HN HGn
                        obtain ⟨A2, cap2, hv2⟩ := hex
                        rw [hv2] at HLi2 HBa2 HB2 ⊢
                        clear hown' hgrow hnil hloc HOa HLa HO1 hb hv2 HA hcell hfz)
                      go_roundw
                      case rel => exact ⟨j + 1, f, _, bad, by go_num, by omega, by omega, by omega, HN.out, HGn.out, HLi2, HBa2, HB2⟩
                      case measure => simp [intOf]; omega
                · have hbk : blankB line[0] = false := by rw [← bAt_eq h2]; simpa using hbl2
                  have HBk := hide (fun W => blank25 line[0] false W hbk)
                  have HS2 : Hid (lineStep s i out bad = (out ++ [(i, line, [])], bad)) := by rw [HSt.out, if_neg hns, if_neg hbl2]; rfl
                  rw [HS2.out] at HN HGn HBn
                  clear HSt hns hbk hbl2
                  go_wp2_with fail
                  rw [HLn.out]
                  refine (HTr.out _).mono ?_
                  rintro e w' ⟨rfl, rfl⟩
                  go_wp2_with fail
                  refine (HBk.out _).mono ?_
                  rintro e w' ⟨rfl, rfl⟩
                  go_wp2_with fail
                  refine (HBk.out _).mono ?_
                  rintro e w' ⟨rfl, rfl⟩
                  obtain ⟨ps, hps, hown, hin, hpw⟩ := HLi.out
                  have HO := hide (World.ownsRow.alloc hown (.cells #[.int .i64 (i : Int), .string line, .slice none 0 0] 54))
                  have hpl : ps.length ≤ i := by have := HGo.out.len; rw [← hps, List.length_map] at this; exact this
                  have HI := hide hin
                  have HPw := hide hpw
                  have HPs := hide hps
                  clear hown hin hpw hps HLi
                  have hz : w.heap.size ≤ wr.heap.size := HB.out.size
                  go_wp2_with (at_builtin; refine wpList_append_own_at _ rfl _ _ 48 rfl w.heap.size 54 i54 (.agg #[(.int .i64 0), (.string ⟨#[]⟩), (.slice none 0 0)]) 3 48 Tryd.underlying48 hi54 hz54 hy54 hb54 rfl (by decide) u4 _ _ rfl HO.out ⟨wr.heap.size, 0, none⟩ 1 1 [.int .i64 (i : Int), .string line, .slice none 0 0] rfl rfl (cell_news wr 54 _) (by intro u hu; simp at hu; rcases hu with rfl | rfl | rfl <;> rfl) (by unfold maxLen; omega) (by omega) (by simp; omega) ?_; intro v' w1 hown' hgrow hnil hloc)
                  have HLi2 : Hid (LinesAt 54 w.heap.size v' (out ++ [(i, line, [])]) w1) := by
                    rw [← HPs.out]
                    exact LinesAt.pushed (by decide) HO.out (fun p hp => World.ownsRow.alloc (HI.out p hp) _) HPw.out (i, line, []) (.slice none 0 0) (World.ownsRow_nil _ _ _ _) (fun p _ k _ => by simp [Value.ownBlock]) hown' hgrow
                  have HB2 : Hid (Below w.heap.size w w1) := (HB.out.alloc hz _).grown hgrow (by simp; omega) (fun k' e => (HO.out.lt k' e).1)
                  have HBa2 : Hid (BadAt w.heap.size u5 bad w1) := by
                    have hb : wr.ownsRow w.heap.size 3 1 u5 bad.length (intsV bad) := HBa.out
                    refine own_mv (World.ownsRow.alloc hb (.cells #[.int .i64 (i : Int), .string line, .slice none 0 0] 54)) (fun k hk => ?_)
                    obtain ⟨cur, hc⟩ := own_ty (World.ownsRow.alloc hb (.cells #[.int .i64 (i : Int), .string line, .slice none 0 0] 54)) k hk
                    refine hgrow.block k (Array.getElem?_eq_some_iff.1 hc).1 (fun e' => ?_)
                    obtain ⟨cur', hc'⟩ := own_ty HO.out k e'.symm
                    rw [hc] at hc'
                    injection hc' with hc'
                    injection hc' with _ hc' _
                    exact absurd hc' (by decide)
                  clear hown' hgrow hnil hloc
                  go_roundw
                  case rel => exact ⟨j + 1, f, _, bad, by go_num, by omega, by omega, by omega, HN.out, HGn.out, HLi2, HBa2, HB2⟩
                  case measure => simp [intOf]; omega
        · have HF : Hid (linesOf s = (out, bad)) := by
            have h := HG.out
            cases f with
            | zero => exact h.symm
            | succ f =>
              unfold linesGo at h
              rw [if_neg hlt] at h
              exact h.symm
          clear HG
          go_wp2
          go_ret2
          refine ⟨_, _, rfl, ?_, ?_, HB.out⟩
          · rw [HF.out]; exact HLi.out
          · rw [HF.out]; exact HBa.out
end Go.Proofs.YtllocmgmilllaaaDoor
