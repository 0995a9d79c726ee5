/- The document's text of an instruction (printed by gen15v.py). -/
import Derived.Test.YtmmglikbajiepaaDoorIsaU
namespace Go.Proofs.YtmmglikbajiepaaDoor
open Go.RowKit Go.Lib

set_option maxRecDepth 100000 in
set_option maxHeartbeats 4000000 in
theorem rtext_any (i : InsS) (h0 : errM i = 0) (w : World) : Calls Tryd.prog 13 #[insV i] w fun e w' => e = .returned (.string (str (textB i))) ∧ Keeps w w' := by
  have fk := kind_any i.op
  obtain ⟨hcl, d0, d1, s0, s1, o0, o1, i0, i1⟩ := errM_right h0
  have hsl := (uses_shape hcl).2
  have hlet : ∀ c ∈ shapeB i.op, c = 100 ∨ c = 115 ∨ c = 111 ∨ c = 105 := by
    have h1 : 0 ≤ i.op ∧ i.op ≤ 73 := by
      have := class_range i.op
      omega
    have h2 := shape_lettersN ⟨i.op.toNat, by omega⟩
    simp only at h2
    rw [show ((i.op.toNat : Nat) : Int) = i.op by omega] at h2
    exact h2
  have hnl := name_len i.op
  have z1 : (str (itoa i.dst)).size ≤ 21 := by rw [str_size]; exact itoa_length_le _ (by omega) (by omega)
  have z2 : (str (itoa i.src)).size ≤ 21 := by rw [str_size]; exact itoa_length_le _ (by omega) (by omega)
  have z3 : (str (itoa i.off)).size ≤ 21 := by rw [str_size]; exact itoa_length_le _ (by omega) (by omega)
  have z4 : (str (itoa i.imm)).size ≤ 21 := by rw [str_size]; exact itoa_length_le _ (by omega) (by omega)
  have f1 := dig_any i.dst (by omega) (by omega)
  have f2 := dig_any i.src (by omega) (by omega)
  have f3 := dig_any i.off (by omega) (by omega)
  have f4 := dig_any i.imm (by omega) (by omega)
  obtain ⟨T, hT⟩ : ∃ T, T = textB i := ⟨_, rfl⟩
  rw [← hT]
  rw [textB] at hT
  have hp1 : str (partL i 100) = ⟨#[114]⟩ ++ str (itoa i.dst) := by rw [show (⟨#[114]⟩ : ByteArray) = str [114] from rfl, str_app]; rfl
  have hp2 : str (partL i 115) = ⟨#[114]⟩ ++ str (itoa i.src) := by rw [show (⟨#[114]⟩ : ByteArray) = str [114] from rfl, str_app]; rfl
  have hp3 : str (partL i 111) = str (itoa i.off) := rfl
  have hp4 : str (partL i 105) = str (itoa i.imm) := rfl
  obtain ⟨tl, htl⟩ : ∃ tl, tl = tailB i := ⟨_, rfl⟩
  have hcons : ∀ f c l, tl f (c :: l) = (if f then [32] else [44, 32]) ++ partL i c ++ tl false l := fun f c l => by rw [htl, tailB]
  have hnil : ∀ f, tl f [] = [] := fun f => by rw [htl, tailB]
  rw [← htl] at hT
  obtain ⟨pl, hpl⟩ : ∃ pl, pl = partL i := ⟨_, rfl⟩
  rw [← hpl] at hp1 hp2 hp3 hp4 hcons
  obtain ⟨op, dst, src, off, imm⟩ := i
  simp only at *
  clear hpl htl hcl d0 d1 s0 s1 o0 o1 i0 i1 h0
  change ∀ w, Calls Tryd.prog _ #[.int .i64 op] w fun e w' => e = .returned (.tuple #[.string (str (nameB op)), .string (str (shapeB op)), .int .i64 (classM op)]) ∧ Keeps w w' at fk
  generalize classM op = cl at *
  generalize nameB op = nm at *
  generalize shapeB op = sh at *
  generalize str (itoa dst) = g1 at *
  generalize str (itoa src) = g2 at *
  generalize str (itoa off) = g3 at *
  generalize str (itoa imm) = g4 at *
  obtain ⟨shs, hsh⟩ : ∃ s, s = str sh := ⟨_, rfl⟩
  rw [← hsh] at fk
  have hsz : shs.size = sh.length := by rw [hsh]; exact str_size sh
  have hget : ∀ k (h : k < shs.size), shs[k] = sh.getD k 0 := by
    subst hsh
    intro k h
    have h2 : k < sh.length := by rw [← hsz]; exact h
    rw [List.getD_eq_getElem?_getD, List.getElem?_eq_getElem h2]
    simp [str, ByteArray.getElem_eq_getElem_data]
  obtain ⟨nms, hnm⟩ : ∃ s, s = str nm := ⟨_, rfl⟩
  rw [← hnm] at fk
  have hnz : nms.size ≤ 5 := by rw [hnm, str_size]; exact hnl
  clear hsh
  have hB := Blk.new w 29 (insC ⟨op, dst, src, off, imm⟩)
  have hK := Keeps.alloc w (.cells (insC ⟨op, dst, src, off, imm⟩).toArray 29)
  obtain ⟨B, eB⟩ : ∃ B, B = w.heap.size := ⟨_, rfl⟩
  rw [← eB] at hB
  replace eB := Lib.hid eB
  replace hB := Lib.hid hB
  replace hK := Lib.hid hK
  replace fk := Lib.hid fk
  replace f1 := Lib.hid f1
  replace f2 := Lib.hid f2
  replace f3 := Lib.hid f3
  replace f4 := Lib.hid f4
  replace hlet := Lib.hid hlet
  replace hT := Lib.hid hT
  replace hp1 := Lib.hid hp1
  replace hp2 := Lib.hid hp2
  replace hp3 := Lib.hid hp3
  replace hp4 := Lib.hid hp4
  replace hcons := Lib.hid hcons
  replace hnil := Lib.hid hnil
  replace hget := Lib.hid hget
  replace hnm := Lib.hid hnm
  unfold insV
  go_enter Tryd.func13, Tryd.ntmps13
  go_upto_region 1 with (fail)
  rw [← eB.out]
  refine wp_gen (fun W => Blk W B 29 (insC ⟨op, dst, src, off, imm⟩) ∧ Keeps w W) ⟨hB.out, hK.out⟩ ?_
  clear hB hK eB
  rintro W ⟨hB, hK⟩
  have y0 := show W.cell? ⟨B, 0, none⟩ = some (.int .i64 op) from hB.cell 0 (by simp [insC])
  replace hB := Lib.hid hB
  replace hK := Lib.hid hK
  go_wp2_with fail
  with_reducible refine (fk.out _).mono ?_
  rintro e w1 ⟨rfl, hK1⟩
  have hB1 := hB.out.keeps hK1
  have hK2 := hK.out.trans hK1
  replace hB1 := Lib.hid hB1
  replace hK2 := Lib.hid hK2
  clear hB hK hK1 y0 fk
  go_wp2_with fail
  go_loopw [6, 7] (fun sv iv wr => ∃ (k : Nat) (s : ByteArray) (O : List UInt8), k ≤ sh.length ∧ iv = .int .i64 (k : Int) ∧ sv = .string s ∧ s = str O ∧ s.size ≤ 5 + 40 * k ∧ T = O ++ tl (k == 0) (sh.drop k) ∧ Blk wr B 29 (insC ⟨op, dst, src, off, imm⟩) ∧ Keeps w wr) (fun _ iv _ => sh.length - (RowKit.intOf iv).toNat)
  case atStart => exact ⟨0, nms, nm, by omega, rfl, rfl, hnm.out, by omega, hT.out, hB1.out, hK2.out⟩
  case round =>
    clear hB1 hK2 hnm hT
    obtain ⟨k, s, O, hk, rfl, rfl, hsO, hss, hT, hB, hK⟩ := hrel
    by_cases hkl : k < sh.length
    · have hkI : (k : Int) < (sh.length : Int) := by omega
      have hkz : k < shs.size := by omega
      have hc := hlet.out sh[k] (List.getElem_mem hkl)
      have hg : shs[k] = sh[k] := by rw [hget.out k hkz, List.getD_eq_getElem?_getD, List.getElem?_eq_getElem hkl]; rfl
      rw [List.drop_eq_getElem_cons hkl, hcons.out] at hT
      obtain ⟨y0, y1, y2, y3, y4⟩ := insBlk hB
      have hk3 : k < 3 := by omega
      obtain ⟨c, hcc⟩ : ∃ c, sh[k] = c := ⟨_, rfl⟩
      rw [hcc] at hc hg hT
      clear hcc
      replace hB := Lib.hid hB
      replace hK := Lib.hid hK
      replace hsO := Lib.hid hsO
      by_cases hk0 : k = 0
      · subst hk0
        rw [show ((0 : Nat) == 0) = true from rfl] at hT
        simp only [if_true] at hT
        rcases hc with rfl | rfl | rfl | rfl
        ·
          as_aux_lemma =>
          have hS : s ++ ⟨#[32]⟩ ++ ⟨#[114]⟩ ++ g1 = str (O ++ [32] ++ pl 100) := by rw [← str_app, hp1.out, ← str_app, ← hsO.out, show str [32] = ⟨#[32]⟩ from rfl]; simp only [ByteArray.append_assoc]
          obtain ⟨S, hSS⟩ : ∃ S, S = s ++ ⟨#[32]⟩ ++ ⟨#[114]⟩ ++ g1 := ⟨_, rfl⟩
          have e1 : (⟨#[32]⟩ : ByteArray).size = 1 := rfl
          have e2 : (⟨#[114]⟩ : ByteArray).size = 1 := rfl
          have hSz : S.size ≤ 5 + 40 * (0 + 1) := by rw [hSS]; simp only [ByteArray.size_append]; omega
          clear e1 e2
          have hST := hSS.trans hS
          replace hST := Lib.hid hST
          replace hSz := Lib.hid hSz
          replace hT := Lib.hid hT
          clear hS
          go_wp2_with fail
          with_reducible refine (f1.out _).mono ?_
          rintro e w2 ⟨rfl, hK3⟩
          have hB3 := Lib.hid (hB.out.keeps hK3)
          have hK4 := Lib.hid (hK.out.trans hK3)
          clear hB hK hK3
          go_wp2_with fail
          rw [← hSS]
          go_roundw
          case rel =>
            refine ⟨0 + 1, S, _, by omega, by first | rfl | go_num, rfl, hST.out, hSz.out, ?_, hB3.out, hK4.out⟩
            rw [hT.out, List.append_assoc, List.append_assoc, List.append_assoc]
            rfl
          case measure => (simp [RowKit.intOf]; try omega)
        ·
          as_aux_lemma =>
          have hS : s ++ ⟨#[32]⟩ ++ ⟨#[114]⟩ ++ g2 = str (O ++ [32] ++ pl 115) := by rw [← str_app, hp2.out, ← str_app, ← hsO.out, show str [32] = ⟨#[32]⟩ from rfl]; simp only [ByteArray.append_assoc]
          obtain ⟨S, hSS⟩ : ∃ S, S = s ++ ⟨#[32]⟩ ++ ⟨#[114]⟩ ++ g2 := ⟨_, rfl⟩
          have e1 : (⟨#[32]⟩ : ByteArray).size = 1 := rfl
          have e2 : (⟨#[114]⟩ : ByteArray).size = 1 := rfl
          have hSz : S.size ≤ 5 + 40 * (0 + 1) := by rw [hSS]; simp only [ByteArray.size_append]; omega
          clear e1 e2
          have hST := hSS.trans hS
          replace hST := Lib.hid hST
          replace hSz := Lib.hid hSz
          replace hT := Lib.hid hT
          clear hS
          go_wp2_with fail
          with_reducible refine (f2.out _).mono ?_
          rintro e w2 ⟨rfl, hK3⟩
          have hB3 := Lib.hid (hB.out.keeps hK3)
          have hK4 := Lib.hid (hK.out.trans hK3)
          clear hB hK hK3
          go_wp2_with fail
          rw [← hSS]
          go_roundw
          case rel =>
            refine ⟨0 + 1, S, _, by omega, by first | rfl | go_num, rfl, hST.out, hSz.out, ?_, hB3.out, hK4.out⟩
            rw [hT.out, List.append_assoc, List.append_assoc, List.append_assoc]
            rfl
          case measure => (simp [RowKit.intOf]; try omega)
        ·
          as_aux_lemma =>
          have hS : s ++ ⟨#[32]⟩ ++ g3 = str (O ++ [32] ++ pl 111) := by rw [← str_app, hp3.out, ← str_app, ← hsO.out, show str [32] = ⟨#[32]⟩ from rfl]
          obtain ⟨S, hSS⟩ : ∃ S, S = s ++ ⟨#[32]⟩ ++ g3 := ⟨_, rfl⟩
          have e1 : (⟨#[32]⟩ : ByteArray).size = 1 := rfl
          have e2 : (⟨#[114]⟩ : ByteArray).size = 1 := rfl
          have hSz : S.size ≤ 5 + 40 * (0 + 1) := by rw [hSS]; simp only [ByteArray.size_append]; omega
          clear e1 e2
          have hST := hSS.trans hS
          replace hST := Lib.hid hST
          replace hSz := Lib.hid hSz
          replace hT := Lib.hid hT
          clear hS
          go_wp2_with fail
          with_reducible refine (f3.out _).mono ?_
          rintro e w2 ⟨rfl, hK3⟩
          have hB3 := Lib.hid (hB.out.keeps hK3)
          have hK4 := Lib.hid (hK.out.trans hK3)
          clear hB hK hK3
          go_wp2_with fail
          rw [← hSS]
          go_roundw
          case rel =>
            refine ⟨0 + 1, S, _, by omega, by first | rfl | go_num, rfl, hST.out, hSz.out, ?_, hB3.out, hK4.out⟩
            rw [hT.out, List.append_assoc, List.append_assoc, List.append_assoc]
            rfl
          case measure => (simp [RowKit.intOf]; try omega)
        ·
          as_aux_lemma =>
          have hS : s ++ ⟨#[32]⟩ ++ g4 = str (O ++ [32] ++ pl 105) := by rw [← str_app, hp4.out, ← str_app, ← hsO.out, show str [32] = ⟨#[32]⟩ from rfl]
          obtain ⟨S, hSS⟩ : ∃ S, S = s ++ ⟨#[32]⟩ ++ g4 := ⟨_, rfl⟩
          have e1 : (⟨#[32]⟩ : ByteArray).size = 1 := rfl
          have e2 : (⟨#[114]⟩ : ByteArray).size = 1 := rfl
          have hSz : S.size ≤ 5 + 40 * (0 + 1) := by rw [hSS]; simp only [ByteArray.size_append]; omega
          clear e1 e2
          have hST := hSS.trans hS
          replace hST := Lib.hid hST
          replace hSz := Lib.hid hSz
          replace hT := Lib.hid hT
          clear hS
          go_wp2_with fail
          with_reducible refine (f4.out _).mono ?_
          rintro e w2 ⟨rfl, hK3⟩
          have hB3 := Lib.hid (hB.out.keeps hK3)
          have hK4 := Lib.hid (hK.out.trans hK3)
          clear hB hK hK3
          go_wp2_with fail
          rw [← hSS]
          go_roundw
          case rel =>
            refine ⟨0 + 1, S, _, by omega, by first | rfl | go_num, rfl, hST.out, hSz.out, ?_, hB3.out, hK4.out⟩
            rw [hT.out, List.append_assoc, List.append_assoc, List.append_assoc]
            rfl
          case measure => (simp [RowKit.intOf]; try omega)
      · have hkb : ((k : Int) == 0) = false := by rw [beq_eq_false_iff_ne]; omega
        have hkn : (k == 0) = false := by rw [beq_eq_false_iff_ne]; exact hk0
        rw [hkn] at hT
        simp only [Bool.false_eq_true, if_false] at hT
        rcases hc with rfl | rfl | rfl | rfl
        ·
          as_aux_lemma =>
          have hS : s ++ ⟨#[44, 32]⟩ ++ ⟨#[114]⟩ ++ g1 = str (O ++ [44, 32] ++ pl 100) := by rw [← str_app, hp1.out, ← str_app, ← hsO.out, show str [44, 32] = ⟨#[44, 32]⟩ from rfl]; simp only [ByteArray.append_assoc]
          obtain ⟨S, hSS⟩ : ∃ S, S = s ++ ⟨#[44, 32]⟩ ++ ⟨#[114]⟩ ++ g1 := ⟨_, rfl⟩
          have e1 : (⟨#[44, 32]⟩ : ByteArray).size = 2 := rfl
          have e2 : (⟨#[114]⟩ : ByteArray).size = 1 := rfl
          have hSz : S.size ≤ 5 + 40 * (k + 1) := by rw [hSS]; simp only [ByteArray.size_append]; omega
          clear e1 e2
          have hST := hSS.trans hS
          replace hST := Lib.hid hST
          replace hSz := Lib.hid hSz
          replace hT := Lib.hid hT
          clear hS
          go_wp2_with fail
          with_reducible refine (f1.out _).mono ?_
          rintro e w2 ⟨rfl, hK3⟩
          have hB3 := Lib.hid (hB.out.keeps hK3)
          have hK4 := Lib.hid (hK.out.trans hK3)
          clear hB hK hK3
          go_wp2_with fail
          rw [← hSS]
          go_roundw
          case rel =>
            refine ⟨k + 1, S, _, by omega, by first | rfl | go_num, rfl, hST.out, hSz.out, ?_, hB3.out, hK4.out⟩
            rw [hT.out, List.append_assoc, List.append_assoc, List.append_assoc]
            rfl
          case measure => (simp [RowKit.intOf]; try omega)
        ·
          as_aux_lemma =>
          have hS : s ++ ⟨#[44, 32]⟩ ++ ⟨#[114]⟩ ++ g2 = str (O ++ [44, 32] ++ pl 115) := by rw [← str_app, hp2.out, ← str_app, ← hsO.out, show str [44, 32] = ⟨#[44, 32]⟩ from rfl]; simp only [ByteArray.append_assoc]
          obtain ⟨S, hSS⟩ : ∃ S, S = s ++ ⟨#[44, 32]⟩ ++ ⟨#[114]⟩ ++ g2 := ⟨_, rfl⟩
          have e1 : (⟨#[44, 32]⟩ : ByteArray).size = 2 := rfl
          have e2 : (⟨#[114]⟩ : ByteArray).size = 1 := rfl
          have hSz : S.size ≤ 5 + 40 * (k + 1) := by rw [hSS]; simp only [ByteArray.size_append]; omega
          clear e1 e2
          have hST := hSS.trans hS
          replace hST := Lib.hid hST
          replace hSz := Lib.hid hSz
          replace hT := Lib.hid hT
          clear hS
          go_wp2_with fail
          with_reducible refine (f2.out _).mono ?_
          rintro e w2 ⟨rfl, hK3⟩
          have hB3 := Lib.hid (hB.out.keeps hK3)
          have hK4 := Lib.hid (hK.out.trans hK3)
          clear hB hK hK3
          go_wp2_with fail
          rw [← hSS]
          go_roundw
          case rel =>
            refine ⟨k + 1, S, _, by omega, by first | rfl | go_num, rfl, hST.out, hSz.out, ?_, hB3.out, hK4.out⟩
            rw [hT.out, List.append_assoc, List.append_assoc, List.append_assoc]
            rfl
          case measure => (simp [RowKit.intOf]; try omega)
        ·
          as_aux_lemma =>
          have hS : s ++ ⟨#[44, 32]⟩ ++ g3 = str (O ++ [44, 32] ++ pl 111) := by rw [← str_app, hp3.out, ← str_app, ← hsO.out, show str [44, 32] = ⟨#[44, 32]⟩ from rfl]
          obtain ⟨S, hSS⟩ : ∃ S, S = s ++ ⟨#[44, 32]⟩ ++ g3 := ⟨_, rfl⟩
          have e1 : (⟨#[44, 32]⟩ : ByteArray).size = 2 := rfl
          have e2 : (⟨#[114]⟩ : ByteArray).size = 1 := rfl
          have hSz : S.size ≤ 5 + 40 * (k + 1) := by rw [hSS]; simp only [ByteArray.size_append]; omega
          clear e1 e2
          have hST := hSS.trans hS
          replace hST := Lib.hid hST
          replace hSz := Lib.hid hSz
          replace hT := Lib.hid hT
          clear hS
          go_wp2_with fail
          with_reducible refine (f3.out _).mono ?_
          rintro e w2 ⟨rfl, hK3⟩
          have hB3 := Lib.hid (hB.out.keeps hK3)
          have hK4 := Lib.hid (hK.out.trans hK3)
          clear hB hK hK3
          go_wp2_with fail
          rw [← hSS]
          go_roundw
          case rel =>
            refine ⟨k + 1, S, _, by omega, by first | rfl | go_num, rfl, hST.out, hSz.out, ?_, hB3.out, hK4.out⟩
            rw [hT.out, List.append_assoc, List.append_assoc, List.append_assoc]
            rfl
          case measure => (simp [RowKit.intOf]; try omega)
        ·
          as_aux_lemma =>
          have hS : s ++ ⟨#[44, 32]⟩ ++ g4 = str (O ++ [44, 32] ++ pl 105) := by rw [← str_app, hp4.out, ← str_app, ← hsO.out, show str [44, 32] = ⟨#[44, 32]⟩ from rfl]
          obtain ⟨S, hSS⟩ : ∃ S, S = s ++ ⟨#[44, 32]⟩ ++ g4 := ⟨_, rfl⟩
          have e1 : (⟨#[44, 32]⟩ : ByteArray).size = 2 := rfl
          have e2 : (⟨#[114]⟩ : ByteArray).size = 1 := rfl
          have hSz : S.size ≤ 5 + 40 * (k + 1) := by rw [hSS]; simp only [ByteArray.size_append]; omega
          clear e1 e2
          have hST := hSS.trans hS
          replace hST := Lib.hid hST
          replace hSz := Lib.hid hSz
          replace hT := Lib.hid hT
          clear hS
          go_wp2_with fail
          with_reducible refine (f4.out _).mono ?_
          rintro e w2 ⟨rfl, hK3⟩
          have hB3 := Lib.hid (hB.out.keeps hK3)
          have hK4 := Lib.hid (hK.out.trans hK3)
          clear hB hK hK3
          go_wp2_with fail
          rw [← hSS]
          go_roundw
          case rel =>
            refine ⟨k + 1, S, _, by omega, by first | rfl | go_num, rfl, hST.out, hSz.out, ?_, hB3.out, hK4.out⟩
            rw [hT.out, List.append_assoc, List.append_assoc, List.append_assoc]
            rfl
          case measure => (simp [RowKit.intOf]; try omega)
    · have hke : k = sh.length := by omega
      have hkI : ¬ (k : Int) < (sh.length : Int) := by omega
      have hfin : s = str T := by rw [hsO, hT, hke, List.drop_length, hnil.out, List.append_nil]
      replace hfin := Lib.hid hfin
      replace hK := Lib.hid hK
      clear hB hT hsO hlet hcons hke
      go_wp2_with fail
      go_ret
      exact ⟨by rw [← hfin.out]; rfl, hK.out⟩
end Go.Proofs.YtmmglikbajiepaaDoor
