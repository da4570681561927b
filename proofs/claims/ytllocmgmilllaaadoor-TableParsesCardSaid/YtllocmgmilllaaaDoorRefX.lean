/- The reference's Parse: any text is read as the table that the plain function 'parse' gives, or refused with its fault. -/
import Derived.Test.YtllocmgmilllaaaDoorRefW
import Derived.Deep.CutBlock
namespace Go.Proofs.YtllocmgmilllaaaDoor
open Go.RowKit

theorem LinesAt.lt {te : TypeId} {B g n cap : Nat} {out : List Line} {w : World} (h : LinesAt te B (.slice (some ⟨g, 0, none⟩) n cap) out w) (hn : 0 < out.length) : g < w.heap.size := by
  obtain ⟨ps, hps, h2, _, _⟩ := h
  have hl : ps.length = out.length := by rw [← hps, List.length_map]
  obtain ⟨g', cap', hv, _, _, hg⟩ := own_some h2 (by omega)
  simp only [Value.slice.injEq, Option.some.injEq, Addr.mk.injEq] at hv
  obtain ⟨⟨rfl, _⟩, _⟩ := hv
  exact hg

theorem len2 : ∀ l : List ByteArray, (∀ x ∈ l, x.size ≠ 0) → 2 * l.length ≤ sumLen l
  | [], _ => Nat.zero_le _
  | x :: r, h => by
    have ih := len2 r (fun y hy => h y (List.mem_cons_of_mem _ hy))
    have hx := h x (List.mem_cons_self ..)
    have e : sumLen (x :: r) = (x.size + 1) + sumLen r := by unfold sumLen; rw [List.map_cons, List.sum_cons]
    rw [e, List.length_cons]
    omega

set_option maxHeartbeats 1000000 in
set_option maxRecDepth 100000 in
theorem parse5 (s : ByteArray) (w : World) (hs : s.size ≤ maxLen) :
    Calls Tryd.prog 5 #[.string s] w fun e w' => ParseEnd 36 40 (parse s) w.heap.size e w' ∧ Below w.heap.size w w' := by
  unfold maxLen at hs
  go_enter Tryd.func5, Tryd.ntmps5
  by_cases hlong : 262144 < s.size
  · have HR : Hid (parse s = (none, 60, 262144)) := if_pos hlong
    go_wp2
    refine bodyPost_ret (v := .tuple #[.pointer none, .agg #[.int .i64 60, .int .i64 262144]]) (by simp [results, Tryd.results5, go_sem]) rfl ⟨⟨none, by rw [HR.out]; rfl, .inl ⟨by rw [HR.out], rfl⟩⟩, ?_⟩
    exact (Below.refl _ _).alloc (Nat.le_refl _) _
  · have HR : Hid (parse s = parseGo (s.size + 1) (minF (s.size + 1) (linesOf s).2) (linesOf s).1 []) := if_neg hlong
    have HCu := hide (fun W => lines13 s W (by omega))
    have HGd := hide (Good.lines s)
    have hml := minF_le (s.size + 1) (linesOf s).2
    have hbl := bad_len s
    generalize (linesOf s).1 = lines at HR HCu HGd
    generalize (linesOf s).2 = bad at HR HCu hml hbl
    go_wp2_with fail
    refine (HCu.out _).mono ?_
    rintro e w1 ⟨v, u, rfl, hlin, hbad, hb1⟩
    have hz : (w.alloc (Obj.cells #[.int .i64 0, .int .i64 0] 27)).heap.size = w.heap.size + 1 := by simp
    have hres : w1.heap[w.heap.size]? = some (.cells #[.int .i64 0, .int .i64 0] 27 (0, 0)) := by
      refine (hb1.block _ (by omega)).trans ?_
      show (w.heap.push _)[w.heap.size]? = _
      rw [Array.getElem?_push, if_pos rfl]
    have hbel : Below w.heap.size w w1 := ((Below.refl _ _).alloc (Nat.le_refl _) _).trans (hb1.mono (by omega))
    rw [hz] at hlin hbad
    have HRes := hide hres
    have HBel := hide hbel
    have HLin := hide hlin
    have HBad : Hid (w1.ownsRow (w.heap.size + 1) 3 1 u bad.length (intsV bad)) := hbad
    clear hb1 hz hres hbel hlin hbad HCu hlong
    obtain ⟨Ab, capb, rfl⟩ := own_form HBad.out
    obtain ⟨A, cap, rfl⟩ := LinesAt.form HLin.out
    go_wp2_with fail
    go_loop [6, 7, 8] (fun va vc vi => ∃ (k m : Nat) (c : Int), vi = .int .i64 k ∧ va = .int .i64 m ∧ vc = .int .i64 c ∧ k ≤ bad.length ∧ Hid (m = minF (s.size + 1) (bad.take k)) ∧ Hid (c = if m = s.size + 1 then 0 else 61) ∧ m ≤ s.size + 1) (fun _ _ vi => bad.length - (intOf vi).toNat)
    case atStart => exact ⟨0, s.size + 1, 0, rfl, by go_num, rfl, Nat.zero_le _, rfl, by rw [if_pos rfl]; rfl, Nat.le_refl _⟩
    case round =>
      obtain ⟨k, m, c, rfl, rfl, rfl, hk, HM, HC, hm⟩ := hrel
      by_cases klt : k < bad.length
      · have kd : decide (k < bad.length) = true := decide_eq_true klt
        obtain ⟨g, cap', hv, hcap, hgB, hgl⟩ := own_some HBad.out (by omega)
        simp only [Value.slice.injEq] at hv
        obtain ⟨rfl, -, rfl⟩ := hv
        have hcell : w1.cell? ⟨g, k, none⟩ = some (.int .i64 (bad[k] : Int)) := by
          rw [HBad.out.cellAt k (by omega)]
          unfold intsV
          rw [List.getElem?_map, List.getElem?_eq_getElem klt]
          rfl
        have HMt := hide (minF_take (n := s.size + 1) klt)
        generalize bad[k] = b at hcell HMt
        by_cases hbm : b < m
        · have hN : Hid (b = minF (s.size + 1) (bad.take (k + 1))) := by rw [HMt.out, ← HM.out, if_pos hbm]; rfl
          have hcN : Hid ((61 : Int) = if b = s.size + 1 then 0 else 61) := by rw [if_neg (by omega)]; rfl
          have bd : decide (b < m) = true := decide_eq_true hbm
          clear HMt HM HC
          go_wp2_with fail
          go_round
          case rel => exact ⟨k + 1, b, 61, by go_num, rfl, rfl, by omega, hN, hcN, by omega⟩
          case measure => simp [intOf]; omega
        · have hN : Hid (m = minF (s.size + 1) (bad.take (k + 1))) := by rw [HMt.out, ← HM.out, if_neg hbm]; rfl
          have bd : decide (b < m) = false := decide_eq_false hbm
          clear HMt HM
          go_wp2_with fail
          go_round
          case rel => exact ⟨k + 1, m, c, by go_num, rfl, rfl, by omega, hN, HC, hm⟩
          case measure => simp [intOf]; omega
      · have kd : decide (k < bad.length) = false := decide_eq_false klt
        rw [List.take_of_length_le (by omega)] at HM
        rw [← HM.out] at HR
        have hgb := goB_parse (s.size + 1) m lines [] HGd.out.inc (fun l hl => (HGd.out.at_ l hl).1)
        rw [← HC.out] at hgb
        have HGb : Hid (parse s = goB lines c m []) := HR.out.trans hgb.symm
        clear HBad HM hml hgb HR HC
        have hll := HGd.out.len
        go_upto_block 2 with (fail)
        have HRw : Hid (RW w.heap.size w1.heap.size (.slice A lines.length cap) lines w [] (w1.alloc (.cells #[.slice none 0 0] 36))) := by
          have hba : Below w1.heap.size w1 (w1.alloc (.cells #[.slice none 0 0] 36)) := (Below.refl _ _).alloc (Nat.le_refl _) _
          have hz := (Array.getElem?_eq_some_iff.1 HRes.out).1
          refine ⟨(hba.block _ hz).trans HRes.out, ⟨_, ?_, World.ownsRow_nil _ _ _ _⟩, HLin.out.below hba, HBel.out.trans (hba.mono (Nat.le_of_lt hz)), hz⟩
          show (w1.heap.push _)[w1.heap.size]? = _
          rw [Array.getElem?_push, if_pos rfl]
        clear HRes HBel HLin
        generalize w1.alloc (.cells #[.slice none 0 0] 36) = w2 at HRw ⊢
        generalize w1.heap.size = T at HRw ⊢
        go_cut [6, 7] (fun va vc wc => ∃ (m : Nat) (c : Int) (L : List Ent), va = .int .i64 m ∧ vc = .int .i64 c ∧ L.length ≤ 2000 ∧ Hid (parse s = if c = 0 then (some L, 0, 0) else (none, c, m)) ∧ Hid (RW w.heap.size T (.slice A lines.length cap) lines w L wc))
        case first =>
          go_wp2_with fail
          go_loopw [6, 7, 10] (fun va vc vi wr => ∃ (j m : Nat) (c : Int) (L : List Ent), vi = .int .i64 j ∧ va = .int .i64 m ∧ vc = .int .i64 c ∧ j ≤ lines.length ∧ L.length ≤ 2000 ∧ Hid (parse s = goB (lines.drop j) c m L) ∧ Hid (RW w.heap.size T (.slice A lines.length cap) lines w L wr)) (fun _ _ vi _ => lines.length - (intOf vi).toNat)
          case atStart => exact ⟨0, m, c, [], rfl, rfl, rfl, Nat.zero_le _, by simp, HGb, HRw⟩
          case round =>
            clear HRw HGb hm
            obtain ⟨j, m, c, L, rfl, rfl, rfl, hj, hL, HRj, HPj⟩ := hrel
            by_cases jlt : j < lines.length
            · have jd : decide (j < lines.length) = true := decide_eq_true jlt
              obtain ⟨g, A2, c2, rfl, -, hcap, k0, k1, k2, kO⟩ := LinesAt.get HPj.out.lin j jlt
              have hdrop : lines.drop j = lines[j] :: lines.drop (j + 1) := List.drop_eq_getElem_cons jlt
              rw [hdrop, goB] at HRj
              clear hdrop
              have hmem : lines[j] ∈ lines := List.getElem_mem jlt
              have HNe := hide (HGd.out.ne _ hmem)
              have hpcs := HGd.out.pcs _ hmem
              have htxt := HGd.out.txt _ hmem
              generalize lines[j] = l at k0 k1 k2 kO HRj HNe hpcs htxt
              clear hmem
              by_cases hlm : l.1 < m
              · have ld : decide (l.1 < m) = true := decide_eq_true hlm
                have HRx := hide (HRj.out.trans (if_pos hlm))
                clear HRj
                have hl2 := len2 l.2.2 HNe.out
                have HE := hide (entry14 (l.1 : Int) l.2.1 A2 c2 l.2.2 wr (by omega) (by omega) (by omega) (fun k hk => by
                  obtain ⟨gp, cp, hv, hcc, hgB, hgl⟩ := own_some kO (by omega)
                  simp only [Value.slice.injEq] at hv
                  obtain ⟨rfl, -, rfl⟩ := hv
                  refine ⟨gp, 0, rfl, hgl, ?_⟩
                  rw [Nat.zero_add, kO.cellAt k (by omega)]
                  unfold strsV
                  rw [List.getElem?_map, List.getElem?_eq_getElem hk]
                  rfl))
                have hke : lowS (l.2.1.extract 0 (keyLen l.2.1)) = keyOf l := rfl
                have hve : valGo (trimB (l.2.1.extract (keyLen l.2.1) l.2.1.size)) l.2.2 = valOf l := valGo_val l HNe.out
                rw [hke, hve] at HE
                clear hke hve HNe hl2 kO
                generalize keyOf l = key at HE HRx
                generalize valOf l = val at HE HRx
                go_wp2_with fail
                refine HE.out.mono ?_
                rintro e W2 ⟨rfl, hb2⟩
                go_upto_region 17 with (fail)
                have hb2a : Below wr.heap.size wr (W2.alloc (.cells #[.string key, .string val] 40)) := hb2.alloc hb2.size _
                have HPk := hide (HPj.out.below hb2a)
                have hk0 := cell_kept hb2a (HPj.out.lin.lt (by omega)) k0
                have hxb : (W2.alloc (.cells #[.string key, .string val] 40)).heap[W2.heap.size]? = some (.cells #[.string key, .string val] 40 (0, 0)) := by
                  show (W2.heap.push _)[W2.heap.size]? = _
                  rw [Array.getElem?_push, if_pos rfl]
                clear hb2 hb2a HPj HE k0 k1 k2
                generalize W2.alloc (.cells #[.string key, .string val] 40) = W3 at HPk hk0 hxb ⊢
                generalize W2.heap.size = xb at hxb ⊢
                have Hxb := hide hxb
                obtain ⟨x0, x1, -, -⟩ := pair_cells hxb
                clear hxb
                have HPl := hide (place15 T L key W3 HPk.out.tabAt hL)
                generalize placeB L key = pb at HPl HRx
                have HPi := hide (placeI_le L key)
                generalize placeI L key = pi at HPl HRx HPi
                go_wp2_with fail
                refine HPl.out.mono ?_
                rintro e W4 ⟨rfl, hb4⟩
                have HPk4 := hide (HPk.out.below hb4)
                have hk04 := cell_kept hb4 (HPk.out.lin.lt (by omega)) hk0
                have Hxb4 := hide ((hb4.block _ (Array.getElem?_eq_some_iff.1 Hxb.out).1).trans Hxb.out)
                clear HPk Hxb HPl hb4 x0 x1 hk0
                obtain ⟨x0, x1, -, -⟩ := pair_cells Hxb4.out
                go_upto_block 4 with (fail)
                go_cut [7] (fun vc wc => W4 = wc ∧ ∃ cd : Int, vc = .int .i64 cd ∧ Hid (parse s = goB (lines.drop (j + 1)) cd l.1 L))
                case first =>
                  by_cases h1 : 320 < key.size
                  · have hR := hide (HRx.out.trans (if_pos (.inl h1)))
                    have d1 : decide (320 < key.size) = true := decide_eq_true h1
                    clear HRx
                    go_wp2_with fail
                    go_meet
                    case rel => exact ⟨rfl, 61, rfl, hR⟩
                  · have d1 : decide (320 < key.size) = false := decide_eq_false h1
                    by_cases h2 : val.size = 0
                    · have hR := hide (HRx.out.trans (if_pos (.inr (.inl h2))))
                      have d2 := emp_list h2
                      clear HRx
                      go_wp2_with fail
                      go_meet
                      case rel => exact ⟨rfl, 61, rfl, hR⟩
                    · have d2 := nemp_list h2
                      by_cases h3 : 1000 < val.size
                      · have hR := hide (HRx.out.trans (if_pos (.inr (.inr h3))))
                        have d3 : decide (1000 < val.size) = true := decide_eq_true h3
                        clear HRx
                        go_wp2_with fail
                        go_meet
                        case rel => exact ⟨rfl, 61, rfl, hR⟩
                      · have d3 : decide (1000 < val.size) = false := decide_eq_false h3
                        have hR := hide (HRx.out.trans (if_neg (by omega)))
                        clear HRx
                        by_cases h4 : pb = true
                        · subst h4
                          have hR2 := hide (hR.out.trans (if_pos rfl))
                          clear hR
                          go_wp2_with fail
                          go_meet
                          case rel => exact ⟨rfl, 63, rfl, hR2⟩
                        · have h4' : pb = false := by simpa using h4
                          subst h4'
                          have hR2 := hide (hR.out.trans (if_neg (by simp)))
                          clear hR h4
                          obtain ⟨tv, t1, t2⟩ := HPk4.out.tab
                          have Ht2 := hide t2
                          clear t2
                          obtain ⟨A3, cap3, rfl⟩ := own_form Ht2.out
                          have q0 : W4.cell? ⟨T, 0, none⟩ = some (.slice A3 L.length cap3) := by rw [cell_of_row W4 T 0 _ 36 (0, 0) t1]; rfl
                          by_cases h5 : L.length = 2000
                          · have hR3 := hide (hR2.out.trans (if_pos h5))
                            have d5 : decide (2000 ≤ L.length) = true := decide_eq_true (by omega)
                            clear hR2
                            go_wp2_with fail
                            go_meet
                            case rel => exact ⟨rfl, 62, rfl, hR3⟩
                          · have hR3 := hide (hR2.out.trans (if_neg h5))
                            have d5 : decide (2000 ≤ L.length) = false := decide_eq_false (by omega)
                            clear hR2
                            have hpi := HPi.out
                            have HPs := hide (insL_len L pi (key, val) HPi.out)
                            have hBW : w.heap.size + 1 ≤ W4.heap.size := Nat.le_trans HPk4.out.lt (Nat.le_of_lt HPk4.out.size)
                            have hTz := HPk4.out.size
                            have HT := hide t1
                            clear t1
                            rcases Ht2.out.2 with ⟨hv, hxs⟩ | ⟨g2, cap2, cur2, hv, hg2, hh2, hr2, hm2, hs2, htk2⟩
                            · simp only [Value.slice.injEq] at hv
                              obtain ⟨rfl, hL0, rfl⟩ := hv
                              obtain rfl : L = [] := List.length_eq_zero_iff.1 hL0
                              have hp0 : pi = 0 := Nat.le_zero.1 hpi
                              subst hp0
                              change W4.cell? ⟨T, 0, none⟩ = some (.slice none 0 0) at q0
                              have HT0 : Hid (W4.heap[T]? = some (.cells #[.slice none 0 0] 36 (0, 0))) := HT.out
                              clear HT hL0 hpi
                              have HT := HT0
                              clear HT0
                              have hcell : cellsOf (insL [] 0 (key, val)) = [] ++ [] ++ entC (key, val) ++ [] := rfl
                              go_upto_region 20 with (
                                at_builtin
                                refine wpList_append40 rfl _ _ rfl W4.heap.size (.slice none 0 0) 0 [] rfl (World.ownsRow_nil _ _ _ _) _ 0 [] rfl (.inl ⟨rfl, rfl, rfl⟩) (by simp) (by omega) (by omega) (Nat.le_refl _) ?_
                                intro A5 N5 c5 W5 hN5 hrow5 hb5
                                have HN5 := hide hN5
                                have l5 : N5 ≤ 2000 := by rw [hN5]; omega
                                clear hN5
                                have Hxb5 := hide ((hb5.block _ (Array.getElem?_eq_some_iff.1 Hxb4.out).1).trans Hxb4.out)
                                have hT5 := Nat.le_trans (Nat.succ_le_of_lt hTz) hb5.size
                                obtain ⟨y0, y1, -, -⟩ := pair_cells Hxb5.out)
                              go_upto_region 21 with (
                                at_builtin
                                refine wpList_append40 rfl _ _ rfl W4.heap.size (.slice A5 N5 c5) N5 ([] ++ []) rfl (World.ownsRow.alloc hrow5 (.cells #[.string key, .string val] 40)) _ 1 (entC (key, val)) rfl (.inr ⟨⟨W5.heap.size, 0, none⟩, 1, rfl, rfl, cell_news W5 40 _⟩) (entC_one _) (by omega) (by omega) (by have := hb5.size; simp; omega) ?_
                                intro A6 N6 c6 W6 hN6 hrow6 hb6
                                have HN6 := hide hN6
                                have l6 : N6 ≤ 2001 := by rw [hN6]; omega
                                clear hN6
                                have hb46 : Below W4.heap.size W4 W6 := (hb5.alloc hb5.size _).trans hb6
                                have q06 := cell_kept hb46 hTz q0)
                              go_wp2_with (
                                at_builtin
                                refine wpList_append40 rfl _ _ rfl W4.heap.size (.slice A6 N6 c6) N6 ([] ++ [] ++ entC (key, val)) rfl hrow6 _ 0 [] rfl (.inl ⟨rfl, rfl, rfl⟩) (by simp) (by omega) (by omega) hb46.size ?_
                                intro A7 N7 c7 W7 hN7 hrow7 hb7
                                rw [HN6.out, HN5.out] at hN7
                                have HN7 := hide hN7
                                clear hN7
                                have hb47 := hb46.trans hb7
                                have t7 := (hb47.block _ hTz).trans HT.out
                                have q7 : W7.cell? ⟨T, 0, none⟩ = some (.slice none 0 0) := by rw [cell_of_row W7 T 0 _ 36 (0, 0) t7]; rfl
                                have q7f := frozen_of_row W7 T 0 _ 36 t7
                                have HPn : Hid (RW w.heap.size T (.slice (some ⟨g, 0, none⟩) lines.length cap) lines w (insL [] 0 (key, val)) (W7.setCell ⟨T, 0, none⟩ (.slice A7 N7 c7))) := (HPk4.out.below hb47).put (by
                                  have e1 : N7 = (insL [] 0 (key, val)).length := by rw [HPs.out, HN7.out]; omega
                                  rw [← e1, hcell]
                                  exact own_low hrow7 hBW))
                              clear hrow5 hrow6 hrow7 hb5 hb6 hb7 hb46 hb47 q06 q7 q7f t7 q0 HT Ht2 hcell
                              have hzn := HPs.out
                              go_wp2_with fail
                              go_roundw
                              case rel => exact ⟨j + 1, m, c, _, by go_num, rfl, rfl, by omega, by omega, hR3, HPn⟩
                              case measure => simp [intOf]; omega
                            · simp only [Value.slice.injEq, true_and] at hv
                              obtain ⟨rfl, rfl⟩ := hv
                              clear hs2 htk2 hm2
                              have hg2l := (Array.getElem?_eq_some_iff.1 hh2).1
                              have hcp : L.length ≤ cap3 := by omega
                              have hcell : cellsOf (insL L pi (key, val)) = [] ++ cellsOf (L.take pi) ++ entC (key, val) ++ cellsOf (L.drop pi) := by
                                rw [cellsOf_ins L pi _ HPi.out, cellsOf_take L pi HPi.out, cellsOf_drop L pi HPi.out]
                                simp
                              go_upto_region 20 with (
                                at_builtin
                                refine wpList_append40 rfl _ _ rfl W4.heap.size (.slice none 0 0) 0 [] rfl (World.ownsRow_nil _ _ _ _) _ pi (cellsOf (L.take pi)) rfl (.inr ⟨⟨g2, 0, none⟩, cap3, rfl, by rw [cellsOf_len, List.length_take]; omega, src_pre Ht2.out (Below.refl _ _) hg2l pi HPi.out⟩) (cellsOf_one _) (by omega) (by omega) (Nat.le_refl _) ?_
                                intro A5 N5 c5 W5 hN5 hrow5 hb5
                                have HN5 := hide hN5
                                have l5 : N5 ≤ 2000 := by rw [hN5]; omega
                                clear hN5
                                have Hxb5 := hide ((hb5.block _ (Array.getElem?_eq_some_iff.1 Hxb4.out).1).trans Hxb4.out)
                                have hT5 := Nat.le_trans (Nat.succ_le_of_lt hTz) hb5.size
                                obtain ⟨y0, y1, -, -⟩ := pair_cells Hxb5.out)
                              go_upto_region 21 with (
                                at_builtin
                                refine wpList_append40 rfl _ _ rfl W4.heap.size (.slice A5 N5 c5) N5 ([] ++ cellsOf (L.take pi)) rfl (World.ownsRow.alloc hrow5 (.cells #[.string key, .string val] 40)) _ 1 (entC (key, val)) rfl (.inr ⟨⟨W5.heap.size, 0, none⟩, 1, rfl, rfl, cell_news W5 40 _⟩) (entC_one _) (by omega) (by omega) (by have := hb5.size; simp; omega) ?_
                                intro A6 N6 c6 W6 hN6 hrow6 hb6
                                have HN6 := hide hN6
                                have l6 : N6 ≤ 2001 := by rw [hN6]; omega
                                clear hN6
                                have hb46 : Below W4.heap.size W4 W6 := (hb5.alloc hb5.size _).trans hb6
                                have q06 := cell_kept hb46 hTz q0)
                              go_wp2_with (
                                at_builtin
                                refine wpList_append40 rfl _ _ rfl W4.heap.size (.slice A6 N6 c6) N6 ([] ++ cellsOf (L.take pi) ++ entC (key, val)) rfl hrow6 _ (L.length - pi) (cellsOf (L.drop pi)) rfl (src_tail Ht2.out hb46 hg2l pi HPi.out hcp) (cellsOf_one _) (by omega) (by omega) hb46.size ?_
                                intro A7 N7 c7 W7 hN7 hrow7 hb7
                                rw [HN6.out, HN5.out] at hN7
                                have HN7 := hide hN7
                                clear hN7
                                have hb47 := hb46.trans hb7
                                have t7 := (hb47.block _ hTz).trans HT.out
                                have q7 : W7.cell? ⟨T, 0, none⟩ = some (.slice (some ⟨g2, 0, none⟩) L.length cap3) := by rw [cell_of_row W7 T 0 _ 36 (0, 0) t7]; rfl
                                have q7f := frozen_of_row W7 T 0 _ 36 t7
                                have HPn : Hid (RW w.heap.size T (.slice (some ⟨g, 0, none⟩) lines.length cap) lines w (insL L pi (key, val)) (W7.setCell ⟨T, 0, none⟩ (.slice A7 N7 c7))) := (HPk4.out.below hb47).put (by
                                  have e1 : N7 = (insL L pi (key, val)).length := by rw [HPs.out, HN7.out]; omega
                                  rw [← e1, hcell]
                                  exact own_low hrow7 hBW))
                              clear hrow5 hrow6 hrow7 hb5 hb6 hb7 hb46 hb47 q06 q7 q7f t7 q0 HT Ht2 hcell
                              have hzn := HPs.out
                              go_wp2_with fail
                              go_roundw
                              case rel => exact ⟨j + 1, m, c, _, by go_num, rfl, rfl, by omega, by omega, hR3, HPn⟩
                              case measure => simp [intOf]; omega
                case rest =>
                  obtain ⟨rfl, cd, rfl, hR⟩ := hcut
                  have HP := HPk4
                  clear HPk4 Hxb4 x0 x1 HRx HPi
                  go_wp2_with fail
                  go_roundw
                  case rel => exact ⟨j + 1, l.1, cd, L, by go_num, rfl, rfl, by omega, hL, hR, HP⟩
                  case measure => simp [intOf]; omega
              · have ld : decide (l.1 < m) = false := decide_eq_false hlm
                have HRx := hide (HRj.out.trans (if_neg hlm))
                clear HRj
                go_wp2_with fail
                go_meet
                case rel => exact ⟨m, c, L, rfl, rfl, hL, HRx, HPj⟩
            · have jd : decide (j < lines.length) = false := decide_eq_false jlt
              rw [List.drop_eq_nil_of_le (by omega), goB] at HRj
              go_wp2_with fail
              go_meet
              case rel => exact ⟨m, c, L, rfl, rfl, hL, HRj, HPj⟩
        case rest =>
          obtain ⟨m, c, L, rfl, rfl, hL, HRx, HP⟩ := hcut
          clear HRw HGb hm
          obtain ⟨r0, r1, r2, r3⟩ := pair_cells HP.out.res
          by_cases hc : c = 0
          · have HRy := hide (HRx.out.trans (if_pos hc))
            subst hc
            clear HRx
            have hTl := HP.out.lt
            go_wp2_with fail
            refine bodyPost_ret (v := .tuple #[.pointer (some ⟨T, 0, none⟩), .agg #[.int .i64 0, .int .i64 0]]) (by simp [results, Tryd.results5, go_sem, r0, r1]) rfl ⟨⟨some ⟨T, 0, none⟩, by rw [HRy.out]; rfl, .inr ⟨L, T, by rw [HRy.out], rfl, by omega, ?_, hL⟩⟩, ?_⟩
            · exact HP.out.tabR _ _
            · exact (HP.out.bel.setCell (Nat.le_refl _) _).setCell (Nat.le_refl _) _
          · have HRy := hide (HRx.out.trans (if_neg hc))
            have hcd : (c != 0) = true := by simpa using hc
            clear HRx
            go_wp2_with fail
            refine bodyPost_ret (v := .tuple #[.pointer none, .agg #[.int .i64 c, .int .i64 (m : Int)]]) (by simp [results, Tryd.results5, go_sem, r0, r1]) rfl ⟨⟨none, by rw [HRy.out], .inl ⟨by rw [HRy.out], rfl⟩⟩, ?_⟩
            exact (HP.out.bel.setCell (Nat.le_refl _) _).setCell (Nat.le_refl _) _
end Go.Proofs.YtllocmgmilllaaaDoor
