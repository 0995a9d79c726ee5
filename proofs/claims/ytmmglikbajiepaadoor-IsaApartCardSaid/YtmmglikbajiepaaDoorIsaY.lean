/- isa.Text (printed by gen15y.py). -/
import Derived.Test.YtmmglikbajiepaaDoorIsaX
namespace Go.Proofs.YtmmglikbajiepaaDoor
open Go.RowKit Go.Lib

/-- An instruction's text; "" of one that is not right. -/
def textM (i : InsS) : List UInt8 := if errM i = 0 then textB i else []
theorem textB_nil {i : InsS} (h : shapeB i.op = []) : textB i = nameB i.op := by unfold textB; rw [h, tailB, List.append_nil]
theorem textB_cons {i : InsS} {c : UInt8} {l : List UInt8} (h : shapeB i.op = c :: l) : str (nameB i.op) ++ ⟨#[32]⟩ ++ str (join ((shapeB i.op).map (partL i)) [44, 32]) = str (textB i) := by
  unfold textB
  rw [h, tailB_cons, show (⟨#[32]⟩ : ByteArray) = str [32] from rfl, str_app, str_app, List.append_assoc]
  rfl
/-- Where Text is, and nothing old is changed. -/
def TxG (w W : World) (B C P : Nat) (i : InsS) (v : Value) (xs : List (List UInt8)) : Prop := TxS w.heap.size W B C P i (usesM i.op) v xs ∧ Keeps w W
theorem usesBlk {W : World} {C : Nat} {u1 u2 u3 u4 : Bool} (h : Blk W C 58 (usesC (u1, u2, u3, u4))) : W.cell? ⟨C, 0, none⟩ = some (.bool u1) ∧ W.cell? ⟨C, 1, none⟩ = some (.bool u2) ∧ W.cell? ⟨C, 2, none⟩ = some (.bool u3) ∧ W.cell? ⟨C, 3, none⟩ = some (.bool u4) :=
  ⟨h.cell 0 (by simp [usesC]), h.cell 1 (by simp [usesC]), h.cell 2 (by simp [usesC]), h.cell 3 (by simp [usesC])⟩
set_option maxRecDepth 100000 in
set_option maxHeartbeats 4000000 in
theorem text_any (i : InsS) (w : World) (hT : Tabs w) : Calls Tryd.prog 16 #[insV i] w fun e w' => e = .returned (.string (str (textM i))) ∧ Keeps w w' := by
  have fc := check_any i
  have fu := used_any i.op
  have fnm : ∀ W, Keeps w W → _ := fun W hk => name_any i.op W (hT.keeps hk)
  obtain ⟨T, hTx⟩ : ∃ T, T = textM i := ⟨_, rfl⟩
  rw [← hTx]
  have hnl := name_len i.op
  have hB := Blk.new w 34 (insC i)
  have hK := Keeps.alloc w (.cells (insC i).toArray 34)
  obtain ⟨B, eB⟩ : ∃ B, B = w.heap.size := ⟨_, rfl⟩
  rw [← eB] at hB
  have fp : ∀ (W : World) (C P : Nat) (v : Value) (xs : List (List UInt8)), TxG w W B C P i v xs → ∀ (b : Bool) (m : List UInt8) (n : Int), m.length ≤ 1 → -4294967296 ≤ n → n ≤ 4294967296 → xs.length ≤ 10 → Calls Tryd.prog 30 #[.bool b, .string (str m), .int .i64 n, .pointer (some ⟨P, 0, none⟩)] W fun e w' => e = .returned (.tuple #[]) ∧ ∃ v', TxG w w' B C P i v' (xs ++ if b then [m ++ itoa n] else []) := by
    rintro W C P v xs ⟨h, hk⟩ b m n h1 h2 h3 h4
    refine (put_any h hk.size (hT.keeps hk) h4 b m h1 n h2 h3).mono ?_
    rintro e w' ⟨he, v', h', hb⟩
    exact ⟨he, v', h', Below.trans hk hb⟩
  have hpl := puts_letters i (usesM i.op)
  have hls := letters_shape (op := i.op)
  have hjl := join_len i
  have hgood : errM i = 0 → _ := errM_right (i := i)
  have hshl : classM i.op ≠ 0 → _ := fun h => (uses_shape h).2
  have htc : ∀ c l, shapeB i.op = c :: l → _ := fun c l h => textB_cons h
  have htn : shapeB i.op = [] → _ := fun h => textB_nil h
  have hTx0 : errM i = 0 → T = textB i := fun h => by rw [hTx, textM, if_pos h]
  have hTx1 : errM i ≠ 0 → T = [] := fun h => by rw [hTx, textM, if_neg h]
  have hu65 : i.op = 65 → (usesM i.op).2.2.1 = true := fun h => by rw [h]; decide
  have hu67 : i.op = 67 → (usesM i.op).2.2.1 = true := fun h => by rw [h]; decide
  unfold TxG at fp
  obtain ⟨op, dst, src, off, imm⟩ := i
  change ∀ w, Calls Tryd.prog _ #[.int .i64 op] w fun e w' => e = .returned (usesV (usesM op)) ∧ Keeps w w' at fu
  change ∀ W, Keeps w W → Calls Tryd.prog _ #[.int .i64 op] W fun e w' => e = .returned (.string (str (nameB op))) ∧ Keeps W w' at fnm
  simp only at hnl fp hpl hls hjl hgood hshl htc htn hu65 hu67
  generalize usesM op = u at *
  generalize shapeB op = sh at *
  generalize nameB op = nm at *
  generalize classM op = cl at *
  generalize errM ⟨op, dst, src, off, imm⟩ = er at *
  generalize textB ⟨op, dst, src, off, imm⟩ = tx at *
  generalize partL ⟨op, dst, src, off, imm⟩ = pl at *
  clear hTx
  obtain ⟨u1, u2, u3, u4⟩ := u
  simp only [usesV, insV] at fu fc hpl hu65 hu67
  replace hT := Lib.hid hT
  replace eB := Lib.hid eB
  replace hB := Lib.hid hB
  replace hK := Lib.hid hK
  replace fc := Lib.hid fc
  replace fu := Lib.hid fu
  replace fnm := Lib.hid fnm
  replace fp := Lib.hid fp
  replace hpl := Lib.hid hpl
  replace hls := Lib.hid hls
  replace hjl := Lib.hid hjl
  replace hgood := Lib.hid hgood
  replace hshl := Lib.hid hshl
  replace htc := Lib.hid htc
  replace htn := Lib.hid htn
  replace hTx0 := Lib.hid hTx0
  replace hTx1 := Lib.hid hTx1
  replace hu65 := Lib.hid hu65
  replace hu67 := Lib.hid hu67
  replace hnl := Lib.hid hnl
  unfold insV
  go_enter Tryd.func16, Tryd.ntmps16
  go_upto_region 1 with (fail)
  rw [← eB.out]
  refine wp_gen (fun W => Blk W B 34 (insC ⟨op, dst, src, off, imm⟩) ∧ Keeps w W) ⟨hB.out, hK.out⟩ ?_
  clear hB hK
  rintro W ⟨hB, hK⟩
  obtain ⟨y0, y1, y2, y3, y4⟩ := insBlk hB
  replace hB := Lib.hid hB
  replace hK := Lib.hid hK
  go_wp2_with fail
  with_reducible refine (fc.out _).mono ?_
  rintro e w1 ⟨rfl, hK1⟩
  have hB1 := hB.out.keeps hK1
  have hK2 := hK.out.trans hK1
  clear hB hK hK1 y0 y1 y2 y3 y4 fc
  obtain ⟨y0, y1, y2, y3, y4⟩ := insBlk hB1
  replace hB1 := Lib.hid hB1
  replace hK2 := Lib.hid hK2
  by_cases he : er = 0
  · obtain ⟨hcl, d0, d1, s0, s1, o0, o1, i0, i1⟩ := hgood.out he
    have hls2 := hls.out hcl
    have hshl2 := hshl.out hcl
    have hjl2 := hjl.out he
    have hTx2 := hTx0.out he
    subst he
    replace hls2 := Lib.hid hls2
    replace hshl2 := Lib.hid hshl2
    replace hjl2 := Lib.hid hjl2
    replace hTx2 := Lib.hid hTx2
    clear hgood hls hshl hjl hTx0 hTx1 hcl
    go_upto_region 4 with (fail)
    have hP := Blk.new w1 53 [.slice none 0 0]
    have hKp := Keeps.alloc w1 (.cells [.slice none 0 0].toArray 53)
    have hBp := hB1.out.keeps hKp
    have hKq := hK2.out.trans hKp
    obtain ⟨P, eP⟩ : ∃ P, P = w1.heap.size := ⟨_, rfl⟩
    have hPn : w.heap.size ≤ P := by rw [eP]; exact hK2.out.size
    rw [← eP] at hP ⊢
    refine wp_gen (fun W => Blk W B 34 (insC ⟨op, dst, src, off, imm⟩) ∧ Blk W P 53 [.slice none 0 0] ∧ Keeps w W) ⟨hBp, hP, hKq⟩ ?_
    clear hP hKp hBp hKq hB1 hK2 y0 y1 y2 y3 y4 eP
    rintro W2 ⟨hB, hP, hK⟩
    obtain ⟨y0, y1, y2, y3, y4⟩ := insBlk hB
    replace hPn := Lib.hid hPn
    replace hB := Lib.hid hB
    replace hP := Lib.hid hP
    replace hK := Lib.hid hK
    go_wp2_with fail
    with_reducible refine (fu.out _).mono ?_
    rintro e w3 ⟨rfl, hK3⟩
    have hU := Blk.new w3 58 (usesC (u1, u2, u3, u4))
    have hKu := Keeps.alloc w3 (.cells (usesC (u1, u2, u3, u4)).toArray 58)
    have hB2 := (hB.out.keeps hK3).keeps hKu
    have hP2 := (hP.out.keeps hK3).keeps hKu
    have hK4 := (hK.out.trans hK3).trans hKu
    obtain ⟨C, eC⟩ : ∃ C, C = w3.heap.size := ⟨_, rfl⟩
    rw [← eC] at hU
    clear hB hP hK hK3 hKu y0 y1 y2 y3 y4 fu
    replace hU := Lib.hid hU
    replace hB2 := Lib.hid hB2
    replace hP2 := Lib.hid hP2
    replace hK4 := Lib.hid hK4
    replace eC := Lib.hid eC
    go_upto_region 5 with (fail)
    rw [← eC.out]
    refine wp_gen (fun W => TxS w.heap.size W B C P ⟨op, dst, src, off, imm⟩ (u1, u2, u3, u4) (.slice none 0 0) [] ∧ Keeps w W) ⟨⟨hB2.out, hU.out, hP2.out, ⟨by simp, .inl ⟨rfl, rfl⟩⟩, hPn.out⟩, hK4.out⟩ ?_
    clear hB2 hU hP2 hK4 eC
    rintro W4 ⟨hX, hK⟩
    obtain ⟨y0, y1, y2, y3, y4⟩ := insBlk hX.ins
    obtain ⟨z0, z1, z2, z3⟩ := usesBlk hX.us
    have f1 : Calls Tryd.prog 30 #[.bool u1, .string ⟨#[114]⟩, .int .i64 dst, .pointer (some ⟨P, 0, none⟩)] W4 _ := fp.out _ _ _ _ _ ⟨hX, hK⟩ u1 [114] dst (by simp) (by omega) (by omega) (by simp)
    replace f1 := Lib.hid f1
    clear hX hK
    go_wp2_with fail
    with_reducible refine f1.out.mono ?_
    clear f1 y0 y1 y2 y3 y4 z0 z1 z2 z3
    rintro e W5 ⟨rfl, v1, hX, hK⟩
    obtain ⟨x1, hx1, hX⟩ : ∃ x1, ([] ++ if u1 = true then [[114] ++ itoa dst] else []) = x1 ∧ TxS w.heap.size W5 B C P ⟨op, dst, src, off, imm⟩ (u1, u2, u3, u4) v1 x1 := ⟨_, rfl, hX⟩
    have hl1 : x1.length ≤ 1 := by rw [← hx1]; split <;> simp
    have hcase : (op = 65 ∧ u3 = true) ∨ (op = 67 ∧ u3 = true) ∨ ((op ≠ 65 ∧ op ≠ 67) ∧ u3 = true) ∨ ((op ≠ 65 ∧ op ≠ 67) ∧ u3 = false) := by
      by_cases h1 : op = 65
      · exact .inl ⟨h1, hu65.out h1⟩
      · by_cases h2 : op = 67
        · exact .inr (.inl ⟨h2, hu67.out h2⟩)
        · cases u3
          · exact .inr (.inr (.inr ⟨⟨h1, h2⟩, rfl⟩))
          · exact .inr (.inr (.inl ⟨⟨h1, h2⟩, rfl⟩))
    obtain ⟨y0, y1, y2, y3, y4⟩ := insBlk hX.ins
    obtain ⟨z0, z1, z2, z3⟩ := usesBlk hX.us
    replace hx1 := Lib.hid hx1
    replace hX := Lib.hid hX
    replace hK := Lib.hid hK
    clear hu65 hu67
    rcases hcase with ⟨h65, h3⟩ | ⟨h67, h3⟩ | ⟨⟨h65, h67⟩, h3⟩ | ⟨⟨h65, h67⟩, h3⟩
    · as_aux_lemma =>
      subst h3
      have q65 : (op == 65) = true := by rw [beq_iff_eq]; exact h65
      have q67 : (op == 67) = false := by rw [beq_eq_false_iff_ne]; omega
      clear h65
      have hls3 := hls2.out
      rw [q65, q67] at hls3
      replace hls3 : lettersB (u1, u2, true, u4) true = sh := hls3
      replace hls3 := Lib.hid hls3
      clear hls2
      have f2 : Calls Tryd.prog 30 #[.bool true, .string ⟨#[]⟩, .int .i64 off, .pointer (some ⟨P, 0, none⟩)] W5 _ := fp.out _ _ _ _ _ ⟨hX.out, hK.out⟩ true [] off (by simp) (by omega) (by omega) (by omega)
      replace f2 := Lib.hid f2
      clear hX hK
      go_wp2_with fail
      with_reducible refine f2.out.mono ?_
      clear f2 y0 y1 y2 y3 y4 z0 z1 z2 z3
      rintro e W6 ⟨rfl, v2, hX, hK⟩
      obtain ⟨x2, hx2, hX⟩ : ∃ x2, (x1 ++ if true = true then [[] ++ itoa off] else []) = x2 ∧ TxS w.heap.size W6 B C P ⟨op, dst, src, off, imm⟩ (u1, u2, true, u4) v2 x2 := ⟨_, rfl, hX⟩
      have hl2 : x2.length ≤ 2 := by rw [← hx2, List.length_append]; split <;> simp <;> omega
      obtain ⟨y0, y1, y2, y3, y4⟩ := insBlk hX.ins
      obtain ⟨z0, z1, z2, z3⟩ := usesBlk hX.us
      replace hx2 := Lib.hid hx2
      replace hX := Lib.hid hX
      replace hK := Lib.hid hK
      have f3 : Calls Tryd.prog 30 #[.bool u2, .string ⟨#[114]⟩, .int .i64 src, .pointer (some ⟨P, 0, none⟩)] W6 _ := fp.out _ _ _ _ _ ⟨hX.out, hK.out⟩ u2 [114] src (by simp) (by omega) (by omega) (by omega)
      replace f3 := Lib.hid f3
      clear hX hK
      go_wp2_with fail
      with_reducible refine f3.out.mono ?_
      clear f3 y0 y1 y2 y3 y4 z0 z1 z2 z3
      rintro e W7 ⟨rfl, v3, hX, hK⟩
      obtain ⟨x3, hx3, hX⟩ : ∃ x3, (x2 ++ if u2 = true then [[114] ++ itoa src] else []) = x3 ∧ TxS w.heap.size W7 B C P ⟨op, dst, src, off, imm⟩ (u1, u2, true, u4) v3 x3 := ⟨_, rfl, hX⟩
      have hl3 : x3.length ≤ 3 := by rw [← hx3, List.length_append]; split <;> simp <;> omega
      obtain ⟨y0, y1, y2, y3, y4⟩ := insBlk hX.ins
      obtain ⟨z0, z1, z2, z3⟩ := usesBlk hX.us
      replace hx3 := Lib.hid hx3
      replace hX := Lib.hid hX
      replace hK := Lib.hid hK
      have f4 : Calls Tryd.prog 30 #[.bool u4, .string ⟨#[]⟩, .int .i64 imm, .pointer (some ⟨P, 0, none⟩)] W7 _ := fp.out _ _ _ _ _ ⟨hX.out, hK.out⟩ u4 [] imm (by simp) (by omega) (by omega) (by omega)
      replace f4 := Lib.hid f4
      clear hX hK
      go_wp2_with fail
      with_reducible refine f4.out.mono ?_
      clear f4 y0 y1 y2 y3 y4 z0 z1 z2 z3
      rintro e W8 ⟨rfl, v4, hX, hK⟩
      obtain ⟨x4, hx4, hX⟩ : ∃ x4, (x3 ++ if u4 = true then [[] ++ itoa imm] else []) = x4 ∧ TxS w.heap.size W8 B C P ⟨op, dst, src, off, imm⟩ (u1, u2, true, u4) v4 x4 := ⟨_, rfl, hX⟩
      have hl4 : x4.length ≤ 4 := by rw [← hx4, List.length_append]; split <;> simp <;> omega
      obtain ⟨y0, y1, y2, y3, y4⟩ := insBlk hX.ins
      obtain ⟨z0, z1, z2, z3⟩ := usesBlk hX.us
      replace hx4 := Lib.hid hx4
      replace hX := Lib.hid hX
      replace hK := Lib.hid hK
      have f5 : Calls Tryd.prog 30 #[.bool false, .string ⟨#[]⟩, .int .i64 off, .pointer (some ⟨P, 0, none⟩)] W8 _ := fp.out _ _ _ _ _ ⟨hX.out, hK.out⟩ false [] off (by simp) (by omega) (by omega) (by omega)
      replace f5 := Lib.hid f5
      clear hX hK
      go_wp2_with fail
      with_reducible refine f5.out.mono ?_
      clear f5 y0 y1 y2 y3 y4 z0 z1 z2 z3
      rintro e W9 ⟨rfl, v5, hX, hK⟩
      obtain ⟨x5, hx5, hX⟩ : ∃ x5, (x4 ++ if false = true then [[] ++ itoa off] else []) = x5 ∧ TxS w.heap.size W9 B C P ⟨op, dst, src, off, imm⟩ (u1, u2, true, u4) v5 x5 := ⟨_, rfl, hX⟩
      have hl5 : x5.length ≤ 5 := by rw [← hx5, List.length_append]; split <;> simp <;> omega
      obtain ⟨y0, y1, y2, y3, y4⟩ := insBlk hX.ins
      obtain ⟨z0, z1, z2, z3⟩ := usesBlk hX.us
      replace hx5 := Lib.hid hx5
      replace hX := Lib.hid hX
      replace hK := Lib.hid hK
      have hxe : x5 = sh.map pl := by
        rw [← hx5.out, ← hx4.out, ← hx3.out, ← hx2.out, ← hx1.out]
        exact (hpl.out true).trans (congrArg (List.map pl) hls3.out)
      have hX2 := hX.out
      rw [hxe] at hX2
      clear hX hx1 hx2 hx3 hx4 hx5 hl1 hl2 hl3 hl4 hl5 hpl hls3 hxe q65 q67 z0 z1 z2 z3 y1 y2 y3 y4
      have hsl := slc_of_row hX2.row
      obtain ⟨q, qc, hqv, hqc, hqm, hqn, hqcell⟩ := id hsl
      rw [List.length_map, List.length_map] at hqv hqc
      have hqcell0 := fun h => hqcell 0 h
      subst hqv
      have hPc := hX2.cell.cell 0 (by simp)
      simp only [List.getElem_cons_zero] at hPc
      clear hqcell hX2 hqn
      cases hsh : sh with
      | nil =>
        have ht := hTx2.out.trans (htn.out hsh)
        have fn := fnm.out _ hK.out
        subst hsh
        simp only [List.length_nil] at hPc
        replace ht := Lib.hid ht
        replace fn := Lib.hid fn
        clear hsl htc htn hqcell0 fnm
        go_wp2_with fail
        with_reducible refine fn.out.mono ?_
        rintro e W10 ⟨rfl, hK10⟩
        have hKf := Lib.hid (hK.out.trans hK10)
        clear hK10
        go_wp2_with fail
        go_ret
        exact ⟨by rw [ht.out]; rfl, hKf.out⟩
      | cons c l =>
        have ht := htc.out c l hsh
        rw [← hTx2.out] at ht
        have hpos : 0 < sh.length := by rw [hsh]; simp
        obtain ⟨qb, qo, rfl, _⟩ := hqcell0 (by rw [List.length_map, List.length_map]; exact hpos)
        have hjn := hjl2.out sh (hshl2.out)
        have hsh3 := hshl2.out
        have fj : ∀ y : After W9, Calls Tryd.prog 32 #[.slice (some ⟨qb, qo, none⟩) sh.length qc, .string ⟨#[44, 32]⟩] y.now fun e w' => e = .returned (.string (str (join (sh.map pl) [44, 32]))) ∧ ∃ z : After W9, w' = z.now := fun y => y.call (by
          have := join_any qb qo qc (sh.map pl) y.now (by rw [List.length_map]; exact Slc.below hsl y.keeps) (by rw [List.length_map]; exact hpos) (by rw [List.length_map]; omega) (by omega)
          rw [List.length_map] at this
          exact this)
        have fn : ∀ y : After W9, Calls Tryd.prog 10 #[.int .i64 op] y.now fun e w' => e = .returned (.string (str nm)) ∧ ∃ z : After W9, w' = z.now := fun y => y.call (fnm.out _ (hK.out.trans y.keeps))
        have s1 : (str nm).size ≤ 5 := by rw [str_size]; exact hnl.out
        have s2 : (str (join (sh.map pl) [44, 32])).size ≤ 100 := by rw [str_size]; exact hjn
        generalize str (join (sh.map pl) [44, 32]) = sj at *
        generalize str nm = sn at *
        have hne : ((sh.length : Int) == 0) = false := by rw [beq_eq_false_iff_ne]; omega
        have hne2 : ¬ (sh.length : Int) = 0 := by omega
        have x0 := After.cell y0
        have xP := After.cell hPc
        replace ht := Lib.hid ht
        replace fn := Lib.hid fn
        replace fj := Lib.hid fj
        replace hsh := Lib.hid hsh
        clear hsl htc htn fnm hjl2 hshl2 hjn hqcell0
        go_upto_region 14 with (fail)
        clear y0 hPc
        refine region_after (by kernel_rfl) (by kernel_rfl) ?_
        repeat go_big_quiet_step (first | (with_reducible exact fn.out _) | (with_reducible exact fj.out _))
        refine wpQuiet_nil ?_
        rintro _ ⟨⟨W10, hK10⟩, rfl⟩
        have hKf := Lib.hid (hK.out.trans hK10)
        clear x0 xP hK10
        go_wp2_with fail
        go_ret
        exact ⟨by rw [← ht.out]; rfl, hKf.out⟩
    · as_aux_lemma =>
      subst h3
      have q65 : (op == 65) = false := by rw [beq_eq_false_iff_ne]; omega
      have q67 : (op == 67) = true := by rw [beq_iff_eq]; exact h67
      clear h67
      have hls3 := hls2.out
      rw [q65, q67] at hls3
      replace hls3 : lettersB (u1, u2, true, u4) true = sh := hls3
      replace hls3 := Lib.hid hls3
      clear hls2
      have f2 : Calls Tryd.prog 30 #[.bool true, .string ⟨#[]⟩, .int .i64 off, .pointer (some ⟨P, 0, none⟩)] W5 _ := fp.out _ _ _ _ _ ⟨hX.out, hK.out⟩ true [] off (by simp) (by omega) (by omega) (by omega)
      replace f2 := Lib.hid f2
      clear hX hK
      go_wp2_with fail
      with_reducible refine f2.out.mono ?_
      clear f2 y0 y1 y2 y3 y4 z0 z1 z2 z3
      rintro e W6 ⟨rfl, v2, hX, hK⟩
      obtain ⟨x2, hx2, hX⟩ : ∃ x2, (x1 ++ if true = true then [[] ++ itoa off] else []) = x2 ∧ TxS w.heap.size W6 B C P ⟨op, dst, src, off, imm⟩ (u1, u2, true, u4) v2 x2 := ⟨_, rfl, hX⟩
      have hl2 : x2.length ≤ 2 := by rw [← hx2, List.length_append]; split <;> simp <;> omega
      obtain ⟨y0, y1, y2, y3, y4⟩ := insBlk hX.ins
      obtain ⟨z0, z1, z2, z3⟩ := usesBlk hX.us
      replace hx2 := Lib.hid hx2
      replace hX := Lib.hid hX
      replace hK := Lib.hid hK
      have f3 : Calls Tryd.prog 30 #[.bool u2, .string ⟨#[114]⟩, .int .i64 src, .pointer (some ⟨P, 0, none⟩)] W6 _ := fp.out _ _ _ _ _ ⟨hX.out, hK.out⟩ u2 [114] src (by simp) (by omega) (by omega) (by omega)
      replace f3 := Lib.hid f3
      clear hX hK
      go_wp2_with fail
      with_reducible refine f3.out.mono ?_
      clear f3 y0 y1 y2 y3 y4 z0 z1 z2 z3
      rintro e W7 ⟨rfl, v3, hX, hK⟩
      obtain ⟨x3, hx3, hX⟩ : ∃ x3, (x2 ++ if u2 = true then [[114] ++ itoa src] else []) = x3 ∧ TxS w.heap.size W7 B C P ⟨op, dst, src, off, imm⟩ (u1, u2, true, u4) v3 x3 := ⟨_, rfl, hX⟩
      have hl3 : x3.length ≤ 3 := by rw [← hx3, List.length_append]; split <;> simp <;> omega
      obtain ⟨y0, y1, y2, y3, y4⟩ := insBlk hX.ins
      obtain ⟨z0, z1, z2, z3⟩ := usesBlk hX.us
      replace hx3 := Lib.hid hx3
      replace hX := Lib.hid hX
      replace hK := Lib.hid hK
      have f4 : Calls Tryd.prog 30 #[.bool u4, .string ⟨#[]⟩, .int .i64 imm, .pointer (some ⟨P, 0, none⟩)] W7 _ := fp.out _ _ _ _ _ ⟨hX.out, hK.out⟩ u4 [] imm (by simp) (by omega) (by omega) (by omega)
      replace f4 := Lib.hid f4
      clear hX hK
      go_wp2_with fail
      with_reducible refine f4.out.mono ?_
      clear f4 y0 y1 y2 y3 y4 z0 z1 z2 z3
      rintro e W8 ⟨rfl, v4, hX, hK⟩
      obtain ⟨x4, hx4, hX⟩ : ∃ x4, (x3 ++ if u4 = true then [[] ++ itoa imm] else []) = x4 ∧ TxS w.heap.size W8 B C P ⟨op, dst, src, off, imm⟩ (u1, u2, true, u4) v4 x4 := ⟨_, rfl, hX⟩
      have hl4 : x4.length ≤ 4 := by rw [← hx4, List.length_append]; split <;> simp <;> omega
      obtain ⟨y0, y1, y2, y3, y4⟩ := insBlk hX.ins
      obtain ⟨z0, z1, z2, z3⟩ := usesBlk hX.us
      replace hx4 := Lib.hid hx4
      replace hX := Lib.hid hX
      replace hK := Lib.hid hK
      have f5 : Calls Tryd.prog 30 #[.bool false, .string ⟨#[]⟩, .int .i64 off, .pointer (some ⟨P, 0, none⟩)] W8 _ := fp.out _ _ _ _ _ ⟨hX.out, hK.out⟩ false [] off (by simp) (by omega) (by omega) (by omega)
      replace f5 := Lib.hid f5
      clear hX hK
      go_wp2_with fail
      with_reducible refine f5.out.mono ?_
      clear f5 y0 y1 y2 y3 y4 z0 z1 z2 z3
      rintro e W9 ⟨rfl, v5, hX, hK⟩
      obtain ⟨x5, hx5, hX⟩ : ∃ x5, (x4 ++ if false = true then [[] ++ itoa off] else []) = x5 ∧ TxS w.heap.size W9 B C P ⟨op, dst, src, off, imm⟩ (u1, u2, true, u4) v5 x5 := ⟨_, rfl, hX⟩
      have hl5 : x5.length ≤ 5 := by rw [← hx5, List.length_append]; split <;> simp <;> omega
      obtain ⟨y0, y1, y2, y3, y4⟩ := insBlk hX.ins
      obtain ⟨z0, z1, z2, z3⟩ := usesBlk hX.us
      replace hx5 := Lib.hid hx5
      replace hX := Lib.hid hX
      replace hK := Lib.hid hK
      have hxe : x5 = sh.map pl := by
        rw [← hx5.out, ← hx4.out, ← hx3.out, ← hx2.out, ← hx1.out]
        exact (hpl.out true).trans (congrArg (List.map pl) hls3.out)
      have hX2 := hX.out
      rw [hxe] at hX2
      clear hX hx1 hx2 hx3 hx4 hx5 hl1 hl2 hl3 hl4 hl5 hpl hls3 hxe q65 q67 z0 z1 z2 z3 y1 y2 y3 y4
      have hsl := slc_of_row hX2.row
      obtain ⟨q, qc, hqv, hqc, hqm, hqn, hqcell⟩ := id hsl
      rw [List.length_map, List.length_map] at hqv hqc
      have hqcell0 := fun h => hqcell 0 h
      subst hqv
      have hPc := hX2.cell.cell 0 (by simp)
      simp only [List.getElem_cons_zero] at hPc
      clear hqcell hX2 hqn
      cases hsh : sh with
      | nil =>
        have ht := hTx2.out.trans (htn.out hsh)
        have fn := fnm.out _ hK.out
        subst hsh
        simp only [List.length_nil] at hPc
        replace ht := Lib.hid ht
        replace fn := Lib.hid fn
        clear hsl htc htn hqcell0 fnm
        go_wp2_with fail
        with_reducible refine fn.out.mono ?_
        rintro e W10 ⟨rfl, hK10⟩
        have hKf := Lib.hid (hK.out.trans hK10)
        clear hK10
        go_wp2_with fail
        go_ret
        exact ⟨by rw [ht.out]; rfl, hKf.out⟩
      | cons c l =>
        have ht := htc.out c l hsh
        rw [← hTx2.out] at ht
        have hpos : 0 < sh.length := by rw [hsh]; simp
        obtain ⟨qb, qo, rfl, _⟩ := hqcell0 (by rw [List.length_map, List.length_map]; exact hpos)
        have hjn := hjl2.out sh (hshl2.out)
        have hsh3 := hshl2.out
        have fj : ∀ y : After W9, Calls Tryd.prog 32 #[.slice (some ⟨qb, qo, none⟩) sh.length qc, .string ⟨#[44, 32]⟩] y.now fun e w' => e = .returned (.string (str (join (sh.map pl) [44, 32]))) ∧ ∃ z : After W9, w' = z.now := fun y => y.call (by
          have := join_any qb qo qc (sh.map pl) y.now (by rw [List.length_map]; exact Slc.below hsl y.keeps) (by rw [List.length_map]; exact hpos) (by rw [List.length_map]; omega) (by omega)
          rw [List.length_map] at this
          exact this)
        have fn : ∀ y : After W9, Calls Tryd.prog 10 #[.int .i64 op] y.now fun e w' => e = .returned (.string (str nm)) ∧ ∃ z : After W9, w' = z.now := fun y => y.call (fnm.out _ (hK.out.trans y.keeps))
        have s1 : (str nm).size ≤ 5 := by rw [str_size]; exact hnl.out
        have s2 : (str (join (sh.map pl) [44, 32])).size ≤ 100 := by rw [str_size]; exact hjn
        generalize str (join (sh.map pl) [44, 32]) = sj at *
        generalize str nm = sn at *
        have hne : ((sh.length : Int) == 0) = false := by rw [beq_eq_false_iff_ne]; omega
        have hne2 : ¬ (sh.length : Int) = 0 := by omega
        have x0 := After.cell y0
        have xP := After.cell hPc
        replace ht := Lib.hid ht
        replace fn := Lib.hid fn
        replace fj := Lib.hid fj
        replace hsh := Lib.hid hsh
        clear hsl htc htn fnm hjl2 hshl2 hjn hqcell0
        go_upto_region 14 with (fail)
        clear y0 hPc
        refine region_after (by kernel_rfl) (by kernel_rfl) ?_
        repeat go_big_quiet_step (first | (with_reducible exact fn.out _) | (with_reducible exact fj.out _))
        refine wpQuiet_nil ?_
        rintro _ ⟨⟨W10, hK10⟩, rfl⟩
        have hKf := Lib.hid (hK.out.trans hK10)
        clear x0 xP hK10
        go_wp2_with fail
        go_ret
        exact ⟨by rw [← ht.out]; rfl, hKf.out⟩
    · as_aux_lemma =>
      subst h3
      have q65 : (op == 65) = false := by rw [beq_eq_false_iff_ne]; exact h65
      have q67 : (op == 67) = false := by rw [beq_eq_false_iff_ne]; exact h67
      clear h65 h67
      have hls3 := hls2.out
      rw [q65, q67] at hls3
      replace hls3 : lettersB (u1, u2, true, u4) false = sh := hls3
      replace hls3 := Lib.hid hls3
      clear hls2
      have f2 : Calls Tryd.prog 30 #[.bool false, .string ⟨#[]⟩, .int .i64 off, .pointer (some ⟨P, 0, none⟩)] W5 _ := fp.out _ _ _ _ _ ⟨hX.out, hK.out⟩ false [] off (by simp) (by omega) (by omega) (by omega)
      replace f2 := Lib.hid f2
      clear hX hK
      go_wp2_with fail
      with_reducible refine f2.out.mono ?_
      clear f2 y0 y1 y2 y3 y4 z0 z1 z2 z3
      rintro e W6 ⟨rfl, v2, hX, hK⟩
      obtain ⟨x2, hx2, hX⟩ : ∃ x2, (x1 ++ if false = true then [[] ++ itoa off] else []) = x2 ∧ TxS w.heap.size W6 B C P ⟨op, dst, src, off, imm⟩ (u1, u2, true, u4) v2 x2 := ⟨_, rfl, hX⟩
      have hl2 : x2.length ≤ 2 := by rw [← hx2, List.length_append]; split <;> simp <;> omega
      obtain ⟨y0, y1, y2, y3, y4⟩ := insBlk hX.ins
      obtain ⟨z0, z1, z2, z3⟩ := usesBlk hX.us
      replace hx2 := Lib.hid hx2
      replace hX := Lib.hid hX
      replace hK := Lib.hid hK
      have f3 : Calls Tryd.prog 30 #[.bool u2, .string ⟨#[114]⟩, .int .i64 src, .pointer (some ⟨P, 0, none⟩)] W6 _ := fp.out _ _ _ _ _ ⟨hX.out, hK.out⟩ u2 [114] src (by simp) (by omega) (by omega) (by omega)
      replace f3 := Lib.hid f3
      clear hX hK
      go_wp2_with fail
      with_reducible refine f3.out.mono ?_
      clear f3 y0 y1 y2 y3 y4 z0 z1 z2 z3
      rintro e W7 ⟨rfl, v3, hX, hK⟩
      obtain ⟨x3, hx3, hX⟩ : ∃ x3, (x2 ++ if u2 = true then [[114] ++ itoa src] else []) = x3 ∧ TxS w.heap.size W7 B C P ⟨op, dst, src, off, imm⟩ (u1, u2, true, u4) v3 x3 := ⟨_, rfl, hX⟩
      have hl3 : x3.length ≤ 3 := by rw [← hx3, List.length_append]; split <;> simp <;> omega
      obtain ⟨y0, y1, y2, y3, y4⟩ := insBlk hX.ins
      obtain ⟨z0, z1, z2, z3⟩ := usesBlk hX.us
      replace hx3 := Lib.hid hx3
      replace hX := Lib.hid hX
      replace hK := Lib.hid hK
      have f4 : Calls Tryd.prog 30 #[.bool u4, .string ⟨#[]⟩, .int .i64 imm, .pointer (some ⟨P, 0, none⟩)] W7 _ := fp.out _ _ _ _ _ ⟨hX.out, hK.out⟩ u4 [] imm (by simp) (by omega) (by omega) (by omega)
      replace f4 := Lib.hid f4
      clear hX hK
      go_wp2_with fail
      with_reducible refine f4.out.mono ?_
      clear f4 y0 y1 y2 y3 y4 z0 z1 z2 z3
      rintro e W8 ⟨rfl, v4, hX, hK⟩
      obtain ⟨x4, hx4, hX⟩ : ∃ x4, (x3 ++ if u4 = true then [[] ++ itoa imm] else []) = x4 ∧ TxS w.heap.size W8 B C P ⟨op, dst, src, off, imm⟩ (u1, u2, true, u4) v4 x4 := ⟨_, rfl, hX⟩
      have hl4 : x4.length ≤ 4 := by rw [← hx4, List.length_append]; split <;> simp <;> omega
      obtain ⟨y0, y1, y2, y3, y4⟩ := insBlk hX.ins
      obtain ⟨z0, z1, z2, z3⟩ := usesBlk hX.us
      replace hx4 := Lib.hid hx4
      replace hX := Lib.hid hX
      replace hK := Lib.hid hK
      have f5 : Calls Tryd.prog 30 #[.bool true, .string ⟨#[]⟩, .int .i64 off, .pointer (some ⟨P, 0, none⟩)] W8 _ := fp.out _ _ _ _ _ ⟨hX.out, hK.out⟩ true [] off (by simp) (by omega) (by omega) (by omega)
      replace f5 := Lib.hid f5
      clear hX hK
      go_wp2_with fail
      with_reducible refine f5.out.mono ?_
      clear f5 y0 y1 y2 y3 y4 z0 z1 z2 z3
      rintro e W9 ⟨rfl, v5, hX, hK⟩
      obtain ⟨x5, hx5, hX⟩ : ∃ x5, (x4 ++ if true = true then [[] ++ itoa off] else []) = x5 ∧ TxS w.heap.size W9 B C P ⟨op, dst, src, off, imm⟩ (u1, u2, true, u4) v5 x5 := ⟨_, rfl, hX⟩
      have hl5 : x5.length ≤ 5 := by rw [← hx5, List.length_append]; split <;> simp <;> omega
      obtain ⟨y0, y1, y2, y3, y4⟩ := insBlk hX.ins
      obtain ⟨z0, z1, z2, z3⟩ := usesBlk hX.us
      replace hx5 := Lib.hid hx5
      replace hX := Lib.hid hX
      replace hK := Lib.hid hK
      have hxe : x5 = sh.map pl := by
        rw [← hx5.out, ← hx4.out, ← hx3.out, ← hx2.out, ← hx1.out]
        exact (hpl.out false).trans (congrArg (List.map pl) hls3.out)
      have hX2 := hX.out
      rw [hxe] at hX2
      clear hX hx1 hx2 hx3 hx4 hx5 hl1 hl2 hl3 hl4 hl5 hpl hls3 hxe q65 q67 z0 z1 z2 z3 y1 y2 y3 y4
      have hsl := slc_of_row hX2.row
      obtain ⟨q, qc, hqv, hqc, hqm, hqn, hqcell⟩ := id hsl
      rw [List.length_map, List.length_map] at hqv hqc
      have hqcell0 := fun h => hqcell 0 h
      subst hqv
      have hPc := hX2.cell.cell 0 (by simp)
      simp only [List.getElem_cons_zero] at hPc
      clear hqcell hX2 hqn
      cases hsh : sh with
      | nil =>
        have ht := hTx2.out.trans (htn.out hsh)
        have fn := fnm.out _ hK.out
        subst hsh
        simp only [List.length_nil] at hPc
        replace ht := Lib.hid ht
        replace fn := Lib.hid fn
        clear hsl htc htn hqcell0 fnm
        go_wp2_with fail
        with_reducible refine fn.out.mono ?_
        rintro e W10 ⟨rfl, hK10⟩
        have hKf := Lib.hid (hK.out.trans hK10)
        clear hK10
        go_wp2_with fail
        go_ret
        exact ⟨by rw [ht.out]; rfl, hKf.out⟩
      | cons c l =>
        have ht := htc.out c l hsh
        rw [← hTx2.out] at ht
        have hpos : 0 < sh.length := by rw [hsh]; simp
        obtain ⟨qb, qo, rfl, _⟩ := hqcell0 (by rw [List.length_map, List.length_map]; exact hpos)
        have hjn := hjl2.out sh (hshl2.out)
        have hsh3 := hshl2.out
        have fj : ∀ y : After W9, Calls Tryd.prog 32 #[.slice (some ⟨qb, qo, none⟩) sh.length qc, .string ⟨#[44, 32]⟩] y.now fun e w' => e = .returned (.string (str (join (sh.map pl) [44, 32]))) ∧ ∃ z : After W9, w' = z.now := fun y => y.call (by
          have := join_any qb qo qc (sh.map pl) y.now (by rw [List.length_map]; exact Slc.below hsl y.keeps) (by rw [List.length_map]; exact hpos) (by rw [List.length_map]; omega) (by omega)
          rw [List.length_map] at this
          exact this)
        have fn : ∀ y : After W9, Calls Tryd.prog 10 #[.int .i64 op] y.now fun e w' => e = .returned (.string (str nm)) ∧ ∃ z : After W9, w' = z.now := fun y => y.call (fnm.out _ (hK.out.trans y.keeps))
        have s1 : (str nm).size ≤ 5 := by rw [str_size]; exact hnl.out
        have s2 : (str (join (sh.map pl) [44, 32])).size ≤ 100 := by rw [str_size]; exact hjn
        generalize str (join (sh.map pl) [44, 32]) = sj at *
        generalize str nm = sn at *
        have hne : ((sh.length : Int) == 0) = false := by rw [beq_eq_false_iff_ne]; omega
        have hne2 : ¬ (sh.length : Int) = 0 := by omega
        have x0 := After.cell y0
        have xP := After.cell hPc
        replace ht := Lib.hid ht
        replace fn := Lib.hid fn
        replace fj := Lib.hid fj
        replace hsh := Lib.hid hsh
        clear hsl htc htn fnm hjl2 hshl2 hjn hqcell0
        go_upto_region 14 with (fail)
        clear y0 hPc
        refine region_after (by kernel_rfl) (by kernel_rfl) ?_
        repeat go_big_quiet_step (first | (with_reducible exact fn.out _) | (with_reducible exact fj.out _))
        refine wpQuiet_nil ?_
        rintro _ ⟨⟨W10, hK10⟩, rfl⟩
        have hKf := Lib.hid (hK.out.trans hK10)
        clear x0 xP hK10
        go_wp2_with fail
        go_ret
        exact ⟨by rw [← ht.out]; rfl, hKf.out⟩
    · as_aux_lemma =>
      subst h3
      have q65 : (op == 65) = false := by rw [beq_eq_false_iff_ne]; exact h65
      have q67 : (op == 67) = false := by rw [beq_eq_false_iff_ne]; exact h67
      clear h65 h67
      have hls3 := hls2.out
      rw [q65, q67] at hls3
      replace hls3 : lettersB (u1, u2, false, u4) false = sh := hls3
      replace hls3 := Lib.hid hls3
      clear hls2
      have f2 : Calls Tryd.prog 30 #[.bool false, .string ⟨#[]⟩, .int .i64 off, .pointer (some ⟨P, 0, none⟩)] W5 _ := fp.out _ _ _ _ _ ⟨hX.out, hK.out⟩ false [] off (by simp) (by omega) (by omega) (by omega)
      replace f2 := Lib.hid f2
      clear hX hK
      go_wp2_with fail
      with_reducible refine f2.out.mono ?_
      clear f2 y0 y1 y2 y3 y4 z0 z1 z2 z3
      rintro e W6 ⟨rfl, v2, hX, hK⟩
      obtain ⟨x2, hx2, hX⟩ : ∃ x2, (x1 ++ if false = true then [[] ++ itoa off] else []) = x2 ∧ TxS w.heap.size W6 B C P ⟨op, dst, src, off, imm⟩ (u1, u2, false, u4) v2 x2 := ⟨_, rfl, hX⟩
      have hl2 : x2.length ≤ 2 := by rw [← hx2, List.length_append]; split <;> simp <;> omega
      obtain ⟨y0, y1, y2, y3, y4⟩ := insBlk hX.ins
      obtain ⟨z0, z1, z2, z3⟩ := usesBlk hX.us
      replace hx2 := Lib.hid hx2
      replace hX := Lib.hid hX
      replace hK := Lib.hid hK
      have f3 : Calls Tryd.prog 30 #[.bool u2, .string ⟨#[114]⟩, .int .i64 src, .pointer (some ⟨P, 0, none⟩)] W6 _ := fp.out _ _ _ _ _ ⟨hX.out, hK.out⟩ u2 [114] src (by simp) (by omega) (by omega) (by omega)
      replace f3 := Lib.hid f3
      clear hX hK
      go_wp2_with fail
      with_reducible refine f3.out.mono ?_
      clear f3 y0 y1 y2 y3 y4 z0 z1 z2 z3
      rintro e W7 ⟨rfl, v3, hX, hK⟩
      obtain ⟨x3, hx3, hX⟩ : ∃ x3, (x2 ++ if u2 = true then [[114] ++ itoa src] else []) = x3 ∧ TxS w.heap.size W7 B C P ⟨op, dst, src, off, imm⟩ (u1, u2, false, u4) v3 x3 := ⟨_, rfl, hX⟩
      have hl3 : x3.length ≤ 3 := by rw [← hx3, List.length_append]; split <;> simp <;> omega
      obtain ⟨y0, y1, y2, y3, y4⟩ := insBlk hX.ins
      obtain ⟨z0, z1, z2, z3⟩ := usesBlk hX.us
      replace hx3 := Lib.hid hx3
      replace hX := Lib.hid hX
      replace hK := Lib.hid hK
      have f4 : Calls Tryd.prog 30 #[.bool u4, .string ⟨#[]⟩, .int .i64 imm, .pointer (some ⟨P, 0, none⟩)] W7 _ := fp.out _ _ _ _ _ ⟨hX.out, hK.out⟩ u4 [] imm (by simp) (by omega) (by omega) (by omega)
      replace f4 := Lib.hid f4
      clear hX hK
      go_wp2_with fail
      with_reducible refine f4.out.mono ?_
      clear f4 y0 y1 y2 y3 y4 z0 z1 z2 z3
      rintro e W8 ⟨rfl, v4, hX, hK⟩
      obtain ⟨x4, hx4, hX⟩ : ∃ x4, (x3 ++ if u4 = true then [[] ++ itoa imm] else []) = x4 ∧ TxS w.heap.size W8 B C P ⟨op, dst, src, off, imm⟩ (u1, u2, false, u4) v4 x4 := ⟨_, rfl, hX⟩
      have hl4 : x4.length ≤ 4 := by rw [← hx4, List.length_append]; split <;> simp <;> omega
      obtain ⟨y0, y1, y2, y3, y4⟩ := insBlk hX.ins
      obtain ⟨z0, z1, z2, z3⟩ := usesBlk hX.us
      replace hx4 := Lib.hid hx4
      replace hX := Lib.hid hX
      replace hK := Lib.hid hK
      have f5 : Calls Tryd.prog 30 #[.bool false, .string ⟨#[]⟩, .int .i64 off, .pointer (some ⟨P, 0, none⟩)] W8 _ := fp.out _ _ _ _ _ ⟨hX.out, hK.out⟩ false [] off (by simp) (by omega) (by omega) (by omega)
      replace f5 := Lib.hid f5
      clear hX hK
      go_wp2_with fail
      with_reducible refine f5.out.mono ?_
      clear f5 y0 y1 y2 y3 y4 z0 z1 z2 z3
      rintro e W9 ⟨rfl, v5, hX, hK⟩
      obtain ⟨x5, hx5, hX⟩ : ∃ x5, (x4 ++ if false = true then [[] ++ itoa off] else []) = x5 ∧ TxS w.heap.size W9 B C P ⟨op, dst, src, off, imm⟩ (u1, u2, false, u4) v5 x5 := ⟨_, rfl, hX⟩
      have hl5 : x5.length ≤ 5 := by rw [← hx5, List.length_append]; split <;> simp <;> omega
      obtain ⟨y0, y1, y2, y3, y4⟩ := insBlk hX.ins
      obtain ⟨z0, z1, z2, z3⟩ := usesBlk hX.us
      replace hx5 := Lib.hid hx5
      replace hX := Lib.hid hX
      replace hK := Lib.hid hK
      have hxe : x5 = sh.map pl := by
        rw [← hx5.out, ← hx4.out, ← hx3.out, ← hx2.out, ← hx1.out]
        exact (hpl.out false).trans (congrArg (List.map pl) hls3.out)
      have hX2 := hX.out
      rw [hxe] at hX2
      clear hX hx1 hx2 hx3 hx4 hx5 hl1 hl2 hl3 hl4 hl5 hpl hls3 hxe q65 q67 z0 z1 z2 z3 y1 y2 y3 y4
      have hsl := slc_of_row hX2.row
      obtain ⟨q, qc, hqv, hqc, hqm, hqn, hqcell⟩ := id hsl
      rw [List.length_map, List.length_map] at hqv hqc
      have hqcell0 := fun h => hqcell 0 h
      subst hqv
      have hPc := hX2.cell.cell 0 (by simp)
      simp only [List.getElem_cons_zero] at hPc
      clear hqcell hX2 hqn
      cases hsh : sh with
      | nil =>
        have ht := hTx2.out.trans (htn.out hsh)
        have fn := fnm.out _ hK.out
        subst hsh
        simp only [List.length_nil] at hPc
        replace ht := Lib.hid ht
        replace fn := Lib.hid fn
        clear hsl htc htn hqcell0 fnm
        go_wp2_with fail
        with_reducible refine fn.out.mono ?_
        rintro e W10 ⟨rfl, hK10⟩
        have hKf := Lib.hid (hK.out.trans hK10)
        clear hK10
        go_wp2_with fail
        go_ret
        exact ⟨by rw [ht.out]; rfl, hKf.out⟩
      | cons c l =>
        have ht := htc.out c l hsh
        rw [← hTx2.out] at ht
        have hpos : 0 < sh.length := by rw [hsh]; simp
        obtain ⟨qb, qo, rfl, _⟩ := hqcell0 (by rw [List.length_map, List.length_map]; exact hpos)
        have hjn := hjl2.out sh (hshl2.out)
        have hsh3 := hshl2.out
        have fj : ∀ y : After W9, Calls Tryd.prog 32 #[.slice (some ⟨qb, qo, none⟩) sh.length qc, .string ⟨#[44, 32]⟩] y.now fun e w' => e = .returned (.string (str (join (sh.map pl) [44, 32]))) ∧ ∃ z : After W9, w' = z.now := fun y => y.call (by
          have := join_any qb qo qc (sh.map pl) y.now (by rw [List.length_map]; exact Slc.below hsl y.keeps) (by rw [List.length_map]; exact hpos) (by rw [List.length_map]; omega) (by omega)
          rw [List.length_map] at this
          exact this)
        have fn : ∀ y : After W9, Calls Tryd.prog 10 #[.int .i64 op] y.now fun e w' => e = .returned (.string (str nm)) ∧ ∃ z : After W9, w' = z.now := fun y => y.call (fnm.out _ (hK.out.trans y.keeps))
        have s1 : (str nm).size ≤ 5 := by rw [str_size]; exact hnl.out
        have s2 : (str (join (sh.map pl) [44, 32])).size ≤ 100 := by rw [str_size]; exact hjn
        generalize str (join (sh.map pl) [44, 32]) = sj at *
        generalize str nm = sn at *
        have hne : ((sh.length : Int) == 0) = false := by rw [beq_eq_false_iff_ne]; omega
        have hne2 : ¬ (sh.length : Int) = 0 := by omega
        have x0 := After.cell y0
        have xP := After.cell hPc
        replace ht := Lib.hid ht
        replace fn := Lib.hid fn
        replace fj := Lib.hid fj
        replace hsh := Lib.hid hsh
        clear hsl htc htn fnm hjl2 hshl2 hjn hqcell0
        go_upto_region 14 with (fail)
        clear y0 hPc
        refine region_after (by kernel_rfl) (by kernel_rfl) ?_
        repeat go_big_quiet_step (first | (with_reducible exact fn.out _) | (with_reducible exact fj.out _))
        refine wpQuiet_nil ?_
        rintro _ ⟨⟨W10, hK10⟩, rfl⟩
        have hKf := Lib.hid (hK.out.trans hK10)
        clear x0 xP hK10
        go_wp2_with fail
        go_ret
        exact ⟨by rw [← ht.out]; rfl, hKf.out⟩
  · have he2 := Lib.hid (hTx1.out he)
    have heb : (er == 0) = false := by rw [beq_eq_false_iff_ne]; exact he
    have heb2 : (er != 0) = true := by rw [bne, heb]; rfl
    clear he
    go_wp2_with fail
    go_ret
    exact ⟨by rw [he2.out]; rfl, hK2.out⟩
end Go.Proofs.YtmmglikbajiepaaDoor
