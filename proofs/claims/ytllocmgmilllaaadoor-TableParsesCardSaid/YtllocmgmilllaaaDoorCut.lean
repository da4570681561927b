/- The program's lines of a text: the reference's, each with its key and its pieces; the first place at which something is wrong. -/
import Derived.Test.YtllocmgmilllaaaDoorAdd
namespace Go.Proofs.YtllocmgmilllaaaDoor
open Go.RowKit

def trimLB (s : ByteArray) : ByteArray := ⟨(Lib.trimLeftS s.data.toList [32, 9]).toArray⟩
theorem trimLB_data (s : ByteArray) : (trimLB s).data.toList = Lib.trimLeftS s.data.toList [32, 9] := rfl
theorem trimLB_le (s : ByteArray) : (trimLB s).size ≤ s.size := by
  rw [← size_list, ← size_list, trimLB_data]
  exact (List.dropWhile_suffix _).length_le

theorem tl_idem (l : List UInt8) : Lib.trimLeftS (Lib.trimLeftS l [32, 9]) [32, 9] = Lib.trimLeftS l [32, 9] := by
  unfold Lib.trimLeftS
  induction l with
  | nil => rfl
  | cons a r ih =>
    rw [List.dropWhile_cons]
    split
    · exact ih
    · rename_i h
      rw [List.dropWhile_cons_of_neg h]
theorem trimB_left (s : ByteArray) : trimB (trimLB s) = trimB s := by
  apply ba_ext
  show Lib.trimS (Lib.trimLeftS s.data.toList [32, 9]) [32, 9] = Lib.trimS s.data.toList [32, 9]
  unfold Lib.trimS
  rw [trim_comm, trim_comm, tl_idem]
theorem tr_prefix (l : List UInt8) : Lib.trimRightS l [32, 9] <+: l := by
  unfold Lib.trimRightS
  have h := List.dropWhile_suffix (l := l.reverse) (([32, 9] : List UInt8).contains ·)
  have h2 := List.reverse_prefix.2 h
  rw [List.reverse_reverse] at h2
  exact h2
theorem trimB_first {s : ByteArray} (h : (trimB s).size ≠ 0) : bAt (trimB s) 0 = bAt (trimLB s) 0 ∧ (trimLB s).size ≠ 0 := by
  have e : (trimB s).data.toList = Lib.trimRightS (trimLB s).data.toList [32, 9] := trim_comm _ _
  have hp := tr_prefix (trimLB s).data.toList
  rw [← e] at hp
  obtain ⟨r, hr⟩ := hp
  rw [← size_list] at h
  rw [← size_list]
  unfold bAt
  rw [← hr]
  cases hc : (trimB s).data.toList with
  | nil => rw [hc] at h; exact absurd rfl h
  | cons a q => exact ⟨rfl, by simp⟩
theorem tl_size {s : ByteArray} (h : 0 < s.size) : ((trimLB s).size = s.size) ↔ ¬ blankB (bAt s 0) = true := by
  constructor
  · intro e hb
    have h1 := tl_step h hb
    have h2 : (trimLB s).size ≤ s.size - 1 := by
      rw [← size_list, trimLB_data, h1]
      have := (List.dropWhile_suffix (l := (s.extract 1 s.size).data.toList) (([32, 9] : List UInt8).contains ·)).length_le
      rw [size_list, ByteArray.size_extract] at this
      unfold Lib.trimLeftS
      omega
    omega
  · intro hb
    rw [← size_list, trimLB_data, tl_end (fun h' => hb h'.2), size_list]

theorem minF_le (N : Nat) (l : List Nat) : minF N l ≤ N := by
  unfold minF
  induction l generalizing N with
  | nil => exact Nat.le_refl _
  | cons a r ih =>
    rw [List.foldl_cons]
    split
    · have := ih a; omega
    · exact ih N
theorem enc_new {N i : Nat} {bad : List Nat} (hi : i < N) (h : encI N (minF N bad) < 0 ∨ (i : Int) < encI N (minF N bad)) : encI N (minF N (bad ++ [i])) = (i : Int) := by
  rw [minF_snoc]
  have hm := minF_le N bad
  generalize minF N bad = m at h hm ⊢
  unfold encI at h ⊢
  have hlt : i < m := by split at h <;> omega
  rw [if_pos hlt, if_neg (by omega)]
theorem enc_old {N i : Nat} {bad : List Nat} (h : ¬ encI N (minF N bad) < 0) (h2 : ¬ (i : Int) < encI N (minF N bad)) : encI N (minF N (bad ++ [i])) = encI N (minF N bad) := by
  rw [minF_snoc]
  generalize minF N bad = m at h h2 ⊢
  unfold encI at h h2 ⊢
  split at h
  · omega
  · rename_i hn
    rw [if_neg hn] at h2
    rw [if_neg (show ¬ i < m by omega), if_neg hn]

theorem trimL31 (s : ByteArray) (w : World) :
    Calls Tryd.prog 31 #[.string s, .string ⟨#[32, 9]⟩] w fun e w' => e = .returned (.string (trimLB s)) ∧ Below w.heap.size w w' := Tryd.strings_TrimLeft_blanks s w

theorem info65 : (Tryd.prog.info? 65).map (fun i => (i.zero, i.size, i.bytes)) = some (some (.agg #[(.int .i64 0), (.string ⟨#[]⟩), (.slice none 0 0)]), 3, 48) := by kernel_rfl

set_option maxHeartbeats 1000000 in
set_option maxRecDepth 100000 in
theorem cut16 (s : ByteArray) (w : World) (hs : s.size ≤ 262144) :
    Calls Tryd.prog 16 #[.string s] w fun e w' => ∃ v, e = .returned (.tuple #[v, .int .i64 (encI (s.size + 1) (minF (s.size + 1) (linesOf s).2))]) ∧ LinesAt 65 w.heap.size v ((linesOf s).1.map conv) w' ∧ Below w.heap.size w w' := by
  obtain ⟨i65, hi65, hz65, hy65, hb65⟩ := info_parts info65
  have HFi := hide (first28 s w)
  go_enter Tryd.func16, Tryd.ntmps16
  go_wp2_with fail
  refine (HFi.out).mono ?_
  rintro e w0 ⟨rfl, hb0⟩
  have HB0 := hide hb0
  clear hb0 HFi
  generalize hx0 : encI (s.size + 1) (minF (s.size + 1) (badFrom s s.size)) = x0
  have HX0 := hide hx0
  clear hx0
  go_wp2
  go_loopw [4, 5, 6] (fun b v a wr => ∃ (i f : Nat) (out : List Line) (bad : List Nat) (x : Int), a = .int .i64 i ∧ i ≤ s.size + 1 ∧ s.size - i < f ∧ b = .int .i64 x ∧ Hid (x = encI (s.size + 1) (minF (s.size + 1) bad)) ∧ Hid (linesGo s f i out bad = linesOf s) ∧ Hid (Good s i out) ∧ Hid (LinesAt 65 w.heap.size v (out.map conv) wr) ∧ Hid (Below w.heap.size w wr)) (fun _ _ a _ => s.size + 1 - (intOf a).toNat)
  case atStart => exact ⟨0, s.size + 1, [], badFrom s s.size, x0, rfl, by omega, by omega, rfl, HX0.out.symm, rfl, Good.nil s 0, LinesAt.nil _ _ _, HB0⟩
  case round =>
    clear HB0 HX0
    obtain ⟨i, f, out, bad, x, rfl, hi, hf, rfl, HX, HG, HGo, HLi, HB⟩ := hrel
    by_cases hlt : i < s.size
    · obtain ⟨f, rfl⟩ : ∃ f', f = f' + 1 := ⟨f - 1, by omega⟩
      have HN : Hid (linesGo s f (endOf s i + 1) (lineStep s i out bad).1 (lineStep s i out bad).2 = linesOf s) := by
        have h := HG.out
        unfold linesGo at h
        rw [if_pos hlt] at h
        exact h
      have HGn := hide (Good.step HGo.out hlt bad)
      obtain ⟨he1, he2⟩ := endOf_le s i (Nat.le_of_lt hlt)
      have HSt : Hid (lineStep s i out bad = if skipB (trimB (s.extract i (endOf s i))) = true then (out, bad)
          else if blankB (bAt (s.extract i (endOf s i)) 0) = true then (if out = [] then (out, bad ++ [i]) else (addLast out (trimB (s.extract i (endOf s i))), bad))
          else (out ++ [(i, s.extract i (endOf s i), [])], bad)) := rfl
      have hlz : (s.extract i (endOf s i)).size = endOf s i - i := by rw [ByteArray.size_extract]; omega
      have HCu := hide (fun W => cut30 (s.extract i s.size) W (by rw [ByteArray.size_extract]; omega))
      rw [← lineLen] at HCu
      clear HG
      generalize s.extract i (endOf s i) = line at HSt HCu hlz
      have HLz := hide hlz
      have hl1 : i + line.size ≤ s.size := by omega
      clear hlz
      have HTL := hide (fun W => trimL31 line W)
      have HTB : Hid (∀ W, Calls Tryd.prog 32 #[.string (trimLB line), .string ⟨#[32, 9]⟩] W fun e w' => e = .returned (.string (trimB line)) ∧ Below W.heap.size W w') := fun W => by
        rw [← trimB_left]
        exact trim32 (trimLB line) W (by have := trimLB_le line; omega)
      have HTz := hide (trimLB_le line)
      have HFst := hide (@trimB_first line)
      have HSz := hide (@tl_size line)
      have HTle := hide (trimB_le line)
      go_wp2_with fail
      refine (HCu.out _).mono ?_
      rintro e w1 ⟨u_, b_, rfl, hb1⟩
      have HB1 : Hid (Below w.heap.size w w1) := HB.out.trans (hb1.mono HB.out.size)
      have HL1 := hide (LinesAt.below HLi.out hb1)
      clear hb1
      go_wp2_with fail
      refine (HTL.out _).mono ?_
      rintro e w2 ⟨rfl, hb2⟩
      have HB2 : Hid (Below w.heap.size w w2) := HB1.out.trans (hb2.mono HB1.out.size)
      have HL2 := hide (LinesAt.below HL1.out hb2)
      clear hb2
      go_wp2_with fail
      refine (HTB.out _).mono ?_
      rintro e w3 ⟨rfl, hb3⟩
      have HB3 : Hid (Below w.heap.size w w3) := HB2.out.trans (hb3.mono HB2.out.size)
      have HL3 := hide (LinesAt.below HL2.out hb3)
      clear hb3 HB HB1 HB2 HLi HL1 HL2
      generalize trimLB line = tl at HTL HTB HTz HFst HSz ⊢
      have hz3 : w.heap.size ≤ w3.heap.size := HB3.out.size
      have HNext : Hid (∀ q : Int, q = (i : Int) + ((line.size : Int) + 1) → Value.int .i64 q = Value.int .i64 ((endOf s i + 1 : Nat) : Int)) := fun q hq => by
        have := HLz.out
        rw [hq]
        congr 1
        omega
      have HFf : Hid (endOf s i + 1 ≤ s.size + 1 ∧ s.size - (endOf s i + 1) < f) := ⟨by omega, by omega⟩
      by_cases h0 : (trimB line).size = 0
      · have HS2 : Hid (lineStep s i out bad = (out, bad)) := by rw [HSt.out, if_pos (by unfold skipB; rw [h0]; rfl)]; rfl
        rw [HS2.out] at HN HGn
        clear HSt
        have he := emp_list h0
        generalize trimB line = t at he h0 HTle HTB HFst ⊢
        go_wp2
        go_roundw
        case rel => exact ⟨endOf s i + 1, f, out, bad, x, HNext.out _ (by omega), HFf.out.1, HFf.out.2, rfl, HX, HN.out, HGn.out, HL3, HB3⟩
        case measure => simp [intOf]; omega
      · obtain ⟨hfb, htl0⟩ := HFst.out h0
        have h1 : 0 < tl.size := by omega
        have h2 : 0 < line.size := by have := HTz.out; omega
        have he := nemp_list h0
        by_cases h35 : bAt tl 0 = 35
        · have HS2 : Hid (lineStep s i out bad = (out, bad)) := by rw [HSt.out, if_pos (by unfold skipB; rw [hfb, h35]; simp)]; rfl
          rw [HS2.out] at HN HGn
          clear HSt hfb htl0
          have b35 : ((tl[0].toNat : Int) == 35) = true := by rw [byte_eq h1 35 35 rfl]; simp [h35]
          clear h35
          generalize trimB line = t at he h0 HTle HTB HFst ⊢
          go_wp2
          go_roundw
          case rel => exact ⟨endOf s i + 1, f, out, bad, x, HNext.out _ (by omega), HFf.out.1, HFf.out.2, rfl, HX, HN.out, HGn.out, HL3, HB3⟩
          case measure => simp [intOf]; omega
        · have hns : ¬ skipB (trimB line) = true := by
            unfold skipB
            rw [hfb]
            simp [h0, h35]
          have b35 : ((tl[0].toNat : Int) == 35) = false := by rw [byte_eq h1 35 35 rfl]; simp [h35]
          have hsz := HSz.out h2
          clear h35 hfb htl0
          by_cases hbl2 : blankB (bAt line 0) = true
          · have hne : ((tl.size : Int) == (line.size : Int)) = false := beq_eq_false_iff_ne.2 (fun e => hsz.1 (by omega) hbl2)
            by_cases hout : out = []
            · subst hout
              have HS2 : Hid (lineStep s i [] bad = ([], bad ++ [i])) := by rw [HSt.out, if_neg hns, if_pos hbl2, if_pos rfl]; rfl
              rw [HS2.out] at HN HGn
              clear HSt hns hbl2 hsz
              obtain ⟨A, cap, hv⟩ := LinesAt.form HL3.out
              have hv' : u5 = .slice A 0 cap := hv
              subst hv'
              clear hv
              generalize trimB line = t at he h0 HTle HTB HFst ⊢
              by_cases hx1 : x < 0
              · have HX2 : Hid ((i : Int) = encI (s.size + 1) (minF (s.size + 1) (bad ++ [i]))) := (enc_new (by omega) (.inl (by rw [← HX.out]; exact hx1))).symm
                have dx : decide (x < 0) = true := decide_eq_true hx1
                clear hx1
                go_wp2
                go_roundw
                case rel => exact ⟨endOf s i + 1, f, [], bad ++ [i], _, HNext.out _ (by omega), HFf.out.1, HFf.out.2, rfl, HX2, HN.out, HGn.out, HL3, HB3⟩
                case measure => simp [intOf]; omega
              · have dx : decide (x < 0) = false := decide_eq_false hx1
                by_cases hx2 : (i : Int) < x
                · have HX2 : Hid ((i : Int) = encI (s.size + 1) (minF (s.size + 1) (bad ++ [i]))) := (enc_new (by omega) (.inr (by rw [← HX.out]; exact hx2))).symm
                  have dx2 : decide ((i : Int) < x) = true := decide_eq_true hx2
                  clear hx1 hx2
                  go_wp2
                  go_roundw
                  case rel => exact ⟨endOf s i + 1, f, [], bad ++ [i], _, HNext.out _ (by omega), HFf.out.1, HFf.out.2, rfl, HX2, HN.out, HGn.out, HL3, HB3⟩
                  case measure => simp [intOf]; omega
                · have HX2 : Hid (x = encI (s.size + 1) (minF (s.size + 1) (bad ++ [i]))) := by
                    show x = _
                    rw [enc_old (by rw [← HX.out]; exact hx1) (by rw [← HX.out]; exact hx2)]
                    exact HX.out
                  have dx2 : decide ((i : Int) < x) = false := decide_eq_false hx2
                  clear hx1 hx2
                  go_wp2
                  go_roundw
                  case rel => exact ⟨endOf s i + 1, f, [], bad ++ [i], x, HNext.out _ (by omega), HFf.out.1, HFf.out.2, rfl, HX2, HN.out, HGn.out, HL3, HB3⟩
                  case measure => simp [intOf]; omega
            · have HS2 : Hid (lineStep s i out bad = (addLast out (trimB line), bad)) := by rw [HSt.out, if_neg hns, if_pos hbl2, if_neg hout]; rfl
              rw [HS2.out] at HN HGn
              clear HSt hns hbl2 hsz
              obtain ⟨ps, hps, hown, hin, hpw⟩ := HL3.out
              rcases List.eq_nil_or_concat ps with rfl | ⟨ps0, ⟨l, f0⟩, rfl⟩
              · exact absurd (List.map_eq_nil_iff.1 hps.symm) hout
              · rw [List.concat_eq_append] at hps hown hin hpw
                rw [List.length_append, List.length_singleton] at hown
                have hlm : (l, f0) ∈ ps0 ++ [(l, f0)] := List.mem_append_right _ (List.mem_singleton.2 rfl)
                have hl0 := hin (l, f0) hlm
                obtain ⟨A0, cap0, hf0⟩ := own_form hl0
                have hf0' : f0 = .slice A0 l.2.2.length cap0 := hf0
                subst hf0'
                clear hf0
                obtain ⟨g, cap, hv, hcap, hgB, hglt⟩ := own_some hown (Nat.succ_pos _)
                subst hv
                rw [List.map_append, List.map_singleton] at hps
                have hlen : out.length = ps0.length + 1 := by
                  have := congrArg List.length hps
                  rw [List.length_append, List.length_singleton, List.length_map, List.length_map] at this
                  exact this.symm
                have hpl : ps0.length + 1 ≤ i := by have := HGo.out.len; omega
                have hpc : l.2.2.length ≤ 262144 := by
                  have hm : l ∈ out.map conv := by rw [← hps]; exact List.mem_append_right _ (List.mem_singleton.2 rfl)
                  obtain ⟨l0, hl00, rfl⟩ := List.mem_map.1 hm
                  have h3 := Nat.le_trans (len_sumLen _) (HGo.out.pcs l0 hl00)
                  show (piecesOf l0).length ≤ 262144
                  unfold piecesOf
                  rw [List.length_append]
                  split
                  · rw [List.length_nil]; omega
                  · rw [List.length_singleton]; omega
                have hcell : w3.cell? ⟨g, ps0.length * 3 + 2, none⟩ = some (.slice A0 l.2.2.length cap0) := by
                  rw [hown.cellAt _ (by omega), rowC_snoc, List.getElem?_append_right (by rw [rowC_len]; omega), rowC_len, show ps0.length * 3 + 2 - ps0.length * 3 = 2 from by omega]
                  rfl
                obtain ⟨cur, hcur⟩ := own_ty hown g rfl
                have HAd := hide (add34_yes g (ps0.length * 3) line A0 l.2.2.length cap0 w.heap.size _ cur w3 (by omega) h0 hcur hcell hl0 hz3 hpc)
                have HAL : Hid ((addLast out (trimB line)).map conv = ps0.map Prod.fst ++ [(l.1, l.2.1, l.2.2 ++ [trimB line])]) := by
                  show _ = _
                  rw [map_addLast, ← hps, addLast_snoc]
                have HOw := hide hown
                have HL0 := hide hl0
                have HI := hide (fun p hp => hin p (List.mem_append_left _ hp))
                have HPw := hide hpw
                clear hown hl0 hin hpw HL3 hlm hout hcell hcur hps hlen
                go_wp2_with fail
                refine (HAd.out).mono ?_
                rintro e w4 ⟨f', w1, rfl, rfl, ho1, hg1, hat1⟩
                have HLi2 := hide (LinesAt.added (by decide) HOw.out HI.out HL0.out HPw.out (trimB line) ho1 hg1 hat1)
                rw [← HAL.out] at HLi2
                have HB4 : Hid (Below w.heap.size w (w1.setCell ⟨g, ps0.length * 3 + 2, none⟩ f')) := (HB3.out.grown hg1 hz3 (fun k' e => (HL0.out.lt k' e).1)).setCell hgB _
                clear ho1 hg1 hat1
                generalize w1.setCell ⟨g, ps0.length * 3 + 2, none⟩ f' = w5 at HLi2 HB4 ⊢
                go_wp2
                go_roundw
                case rel => exact ⟨endOf s i + 1, f, _, bad, x, HNext.out _ (by omega), HFf.out.1, HFf.out.2, rfl, HX, HN.out, HGn.out, HLi2, HB4⟩
                case measure => simp [intOf]; omega
          · have hne : ((tl.size : Int) == (line.size : Int)) = true := beq_iff_eq.2 (by have := hsz.2 hbl2; omega)
            have HS2 : Hid (lineStep s i out bad = (out ++ [(i, line, [])], bad)) := by rw [HSt.out, if_neg hns, if_neg hbl2]; rfl
            rw [HS2.out] at HN HGn
            have HCv : Hid (conv (i, line, []) = (i, lowS (line.extract 0 (keyLen line)), (if (trimB (line.extract (keyLen line) line.size)).size = 0 then [] else [trimB (line.extract (keyLen line) line.size)]) ++ [])) := rfl
            have HAny : Hid (∀ W, Calls Tryd.prog 33 #[.string (line ++ ⟨#[32]⟩), .string ⟨#[32, 9]⟩] W fun e w' => e = .returned (.int .i64 (keyLen line : Int)) ∧ Below W.heap.size W w') := fun W => by
              have h := any33 (line ++ spS) W (by rw [ByteArray.size_append]; have : spS.size = 1 := rfl; omega)
              rw [any_sp] at h
              exact h
            have hkl := keyLen_le line
            clear HSt hns hbl2 hsz
            generalize keyLen line = k at HCv HAny hkl
            have HLow := hide (fun W => lower23 (line.extract 0 k) W (by rw [ByteArray.size_extract]; unfold maxLen; omega))
            generalize lowS (line.extract 0 k) = key at HCv HLow
            go_wp2_with fail
            refine (HAny.out _).mono ?_
            rintro e w4 ⟨rfl, hb4⟩
            have HB4 : Hid (Below w.heap.size w w4) := HB3.out.trans (hb4.mono HB3.out.size)
            have HL4 := hide (LinesAt.below HL3.out hb4)
            clear hb4
            go_wp2_with fail
            refine (HLow.out _).mono ?_
            rintro e w5 ⟨rfl, hb5⟩
            have HB5 : Hid (Below w.heap.size w w5) := HB4.out.trans (hb5.mono HB4.out.size)
            have HL5 := hide (LinesAt.below HL4.out hb5)
            clear hb5 HB3 HB4 HL3 HL4
            have HAd := hide (add34_local (i : Int) key (line.extract k line.size) w5 (by rw [ByteArray.size_extract]; omega))
            have HCv2 : Hid (conv (i, line, []) = (i, key, onePiece (line.extract k line.size))) := by
              show _ = _
              rw [HCv.out, List.append_nil]
              rfl
            generalize onePiece (line.extract k line.size) = pcs at HAd HCv2
            clear HCv
            go_wp2_with fail
            refine (HAd.out).mono ?_
            rintro e w6 ⟨A6, c6, rfl, hblk, hop, hb6⟩
            have HL6 := hide (LinesAt.below HL5.out hb6)
            have HB6 : Hid (Below w.heap.size w w6) := HB5.out.trans (hb6.mono HB5.out.size)
            have hd0 : w6.cell? ⟨w5.heap.size, 0, none⟩ = some (.int .i64 (i : Int)) := by rw [cell_of_row w6 _ _ _ 65 (0, 0) hblk]; rfl
            have hd1 : w6.cell? ⟨w5.heap.size, 1, none⟩ = some (.string key) := by rw [cell_of_row w6 _ _ _ 65 (0, 0) hblk]; rfl
            have hd2 : w6.cell? ⟨w5.heap.size, 2, none⟩ = some (.slice A6 pcs.length c6) := by rw [cell_of_row w6 _ _ _ 65 (0, 0) hblk]; rfl
            obtain ⟨ps, hps, hown, hin, hpw⟩ := HL5.out
            have mv6 : ∀ k' : Nat, k' < w5.heap.size → w6.heap[k']? = w5.heap[k']? := fun k' hk' => hb6.block k' hk'
            have hown6 : w6.ownsRow w.heap.size 65 3 u5 ps.length (rowC ps) := own_mv hown (fun k' hk' => mv6 k' (by obtain ⟨_, h⟩ := own_ty hown k' hk'; exact (Array.getElem?_eq_some_iff.1 h).1))
            have HO := hide (World.ownsRow.alloc hown6 (.cells #[.int .i64 (i : Int), .string key, .slice A6 pcs.length c6] 65))
            have hpl : ps.length ≤ i := by
              have h3 := HGo.out.len
              have h4 := congrArg List.length hps
              rw [List.length_map, List.length_map] at h4
              omega
            have HI : Hid (∀ p, p ∈ ps → (w6.alloc (.cells #[.int .i64 (i : Int), .string key, .slice A6 pcs.length c6] 65)).ownsRow w.heap.size 9 1 p.2 p.1.2.2.length (strsV p.1.2.2)) := fun p hp =>
              World.ownsRow.alloc (own_mv (hin p hp) (fun k' hk' => mv6 k' (by obtain ⟨_, h⟩ := own_ty (hin p hp) k' hk'; exact (Array.getElem?_eq_some_iff.1 h).1))) _
            have HFr : Hid (∀ p, p ∈ ps → ∀ k', p.2.ownBlock = some k' → (Value.slice A6 pcs.length c6).ownBlock ≠ some k') := fun p hp k' hk' e' => by
              obtain ⟨_, h⟩ := own_ty (hin p hp) k' hk'
              have h5 := (Array.getElem?_eq_some_iff.1 h).1
              have h6 := (hop.lt k' e').1
              omega
            have HOp := hide (World.ownsRow.alloc (own_low hop HB5.out.size) (.cells #[.int .i64 (i : Int), .string key, .slice A6 pcs.length c6] 65))
            have HPw := hide hpw
            have HPs := hide hps
            have hz : w.heap.size ≤ w6.heap.size := HB6.out.size
            clear hown hin hpw hps hown6 mv6 hop hb6 hblk HL5 HL6
            go_wp2_with (
              at_builtin
              refine wpList_append_own_at _ rfl _ _ 58 rfl w.heap.size 65 i65 (.agg #[(.int .i64 0), (.string ⟨#[]⟩), (.slice none 0 0)]) 3 48 Tryd.underlying58 hi65 hz65 hy65 hb65 rfl (by decide) u5 _ _ rfl HO.out ⟨w6.heap.size, 0, none⟩ 1 1 [.int .i64 (i : Int), .string key, .slice A6 pcs.length c6] rfl rfl (cell_news w6 65 _) (by intro u hu; simp at hu; rcases hu with rfl | rfl | rfl <;> rfl) (by unfold maxLen; omega) (by omega) (by simp; omega) ?_
              intro v' w1 hown' hgrow hnil hloc
              have HLi2 : Hid (LinesAt 65 w.heap.size v' ((out ++ [(i, line, [])]).map conv) w1) := by
                rw [List.map_append, List.map_singleton, HCv2.out, ← HPs.out]
                exact LinesAt.pushed (by decide) HO.out HI.out HPw.out (i, key, pcs) (.slice A6 pcs.length c6) HOp.out HFr.out hown' hgrow
              have HB7 : Hid (Below w.heap.size w w1) := (HB6.out.alloc hz _).grown hgrow (by simp; omega) (fun k' e => (HO.out.lt k' e).1)
              clear hown' hgrow hnil hloc)
            go_roundw
            case rel => exact ⟨endOf s i + 1, f, _, bad, x, HNext.out _ (by omega), HFf.out.1, HFf.out.2, rfl, HX, HN.out, HGn.out, HLi2, HB7⟩
            case measure => simp [intOf]; omega
    · have HF : Hid (linesOf s = (out, bad)) := by
        have h := HG.out
        cases f with
        | zero => exact h.symm
        | succ f =>
          unfold linesGo at h
          rw [if_neg hlt] at h
          exact h.symm
      clear HG
      go_wp2
      go_ret2
      refine ⟨u5, ?_, ?_, HB.out⟩
      · rw [HF.out, ← HX.out]; rfl
      · rw [HF.out]; exact HLi.out
end Go.Proofs.YtllocmgmilllaaaDoor
