/- isa.Bytes. -/
import Derived.Test.YtmmglikbajiepaaDoorIsaK
namespace Go.Proofs.YtmmglikbajiepaaDoor
open Go.RowKit

theorem own_keeps {W W' : World} {base sz n : Nat} {e : TypeId} {v : Value} {xs : List Value} (h : W.ownsRow base e sz v n xs) (hk : Keeps W W') : W'.ownsRow base e sz v n xs := by
  obtain ⟨hl, hr⟩ := h
  refine ⟨hl, hr.imp id ?_⟩
  rintro ⟨g, cap, cur, rfl, h3, h4, h5⟩
  exact ⟨g, cap, cur, rfl, h3, (hk.block g (Array.getElem?_eq_some_iff.1 h4).1).trans h4, h5⟩
theorem own_ne {W : World} {base sz n G : Nat} {e t : TypeId} {v : Value} {xs cs : List Value} (h : W.ownsRow base e sz v n xs) (hB : Blk W G t cs) (hne : e ≠ t) : some G ≠ v.ownBlock := by
  rcases h.2 with ⟨rfl, _⟩ | ⟨g, cap, cur, rfl, h3, h4, h5⟩
  · simp [Value.ownBlock]
  · intro he
    simp only [Value.ownBlock, Option.some.injEq] at he
    subst he
    have := hB.symm.trans h4
    simp only [Option.some.injEq, Obj.cells.injEq] at this
    exact hne this.2.1.symm
/-- An instruction's bytes. -/
def insB (i : InsS) : List Int := (i.op % 256) :: ((i.dst * 16 + i.src) % 256) :: (lowL i.off 2 ++ lowL i.imm 4)
theorem insB_len (i : InsS) : (insB i).length = 8 := by simp [insB, lowL_len]
def bytesE : List InsS → Int
  | [] => 0
  | x :: l => if errM x = 0 then bytesE l else errM x
theorem bytesE_drop (l : List InsS) (k : Nat) (h : k < l.length) : bytesE (l.drop k) = if errM l[k] = 0 then bytesE (l.drop (k + 1)) else errM l[k] := by
  rw [List.drop_eq_getElem_cons h, bytesE]
theorem insBs_drop (l : List InsS) (k : Nat) (h : k < l.length) : (l.drop k).flatMap insB = insB l[k] ++ (l.drop (k + 1)).flatMap insB := by
  rw [List.drop_eq_getElem_cons h, List.flatMap_cons]
theorem errM_right {i : InsS} (h : errM i = 0) : classM i.op ≠ 0 ∧ 0 ≤ i.dst ∧ i.dst ≤ 9 ∧ 0 ≤ i.src ∧ i.src ≤ 9 ∧ -32768 ≤ i.off ∧ i.off ≤ 32767 ∧ -2147483648 ≤ i.imm ∧ i.imm ≤ 2147483647 := by
  unfold errM at h
  split at h
  · simp at h
  · rename_i hc
    split at h
    · simp at h
    · rename_i hr
      refine ⟨hc, ?_⟩
      simp only [rangeM, outM, Bool.or_eq_true, decide_eq_true_eq, not_or] at hr
      omega
theorem or_nibN : ∀ d : Fin 10, ∀ s : Fin 10, bits .or .i64 ((d.1 : Int) * 16) (s.1 : Int) = (d.1 : Int) * 16 + (s.1 : Int) := by decide +kernel
theorem or_nib {d s : Int} (h0 : 0 ≤ d) (h1 : d ≤ 9) (h2 : 0 ≤ s) (h3 : s ≤ 9) : bits .or .i64 (d * 16) s = d * 16 + s := by
  have := or_nibN ⟨d.toNat, by omega⟩ ⟨s.toNat, by omega⟩
  simp only at this
  rw [show ((d.toNat : Nat) : Int) = d by omega, show ((s.toNat : Nat) : Int) = s by omega] at this
  exact this
theorem insBlk {W : World} {B : Nat} {t : TypeId} {op dst src off imm : Int} (hB : Blk W B t (insC ⟨op, dst, src, off, imm⟩)) : W.cell? ⟨B, 0, none⟩ = some (.int .i64 op) ∧ W.cell? ⟨B, 1, none⟩ = some (.int .i64 dst) ∧ W.cell? ⟨B, 2, none⟩ = some (.int .i64 src) ∧ W.cell? ⟨B, 3, none⟩ = some (.int .i64 off) ∧ W.cell? ⟨B, 4, none⟩ = some (.int .i64 imm) :=
  ⟨hB.cell 0 (by simp [insC]), hB.cell 1 (by simp [insC]), hB.cell 2 (by simp [insC]), hB.cell 3 (by simp [insC]), hB.cell 4 (by simp [insC])⟩
set_option maxRecDepth 100000 in
set_option maxHeartbeats 2000000 in
theorem bytes_any (l : List InsS) (hl : l.length ≤ 1000) (v : Value) (w : World) (hv : SlcS 5 w v (l.map insC)) : Calls Tryd.prog 17 #[v] w fun e w' => ∃ v', e = .returned (.tuple #[v', .int .i64 (bytesE l)]) ∧ Byts w' v' (if bytesE l = 0 then l.flatMap insB else []) ∧ Keeps w w' := by
  obtain ⟨r, hr⟩ : ∃ r, r = bytesE l := ⟨_, rfl⟩
  obtain ⟨L, hL⟩ : ∃ L, L = l.flatMap insB := ⟨_, rfl⟩
  rw [← hr, ← hL]
  obtain ⟨R, hR⟩ : ∃ R, R = (if r = 0 then L else []) := ⟨_, rfl⟩
  rw [← hR]
  replace hR := Lib.hid hR
  replace hr := Lib.hid hr
  replace hL := Lib.hid hL
  obtain ⟨vq, vc, hvv, hvl, hvc, hcells⟩ := hv.get
  rw [List.length_map] at hvv hvl hcells
  subst hvv
  replace hcells := Lib.hid hcells
  clear hv
  go_enter Tryd.func17, Tryd.ntmps17
  go_wp2_with fail
  go_loopw [4, 10] (fun ov iv wr => ∃ (k : Nat) (M : List Int), k ≤ l.length ∧ iv = .int .i64 (k : Int) ∧ r = bytesE (l.drop k) ∧ L = M ++ (l.drop k).flatMap insB ∧ M.length = 8 * k ∧ wr.ownsRow w.heap.size 5 1 ov (8 * k) (M.map (Value.int .u8)) ∧ Keeps w wr) (fun _ iv _ => l.length - (intOf iv).toNat)
  case atStart => exact ⟨0, [], by omega, rfl, by rw [hr.out]; rfl, by rw [hL.out]; rfl, rfl, ⟨by simp, .inl ⟨rfl, rfl⟩⟩, Keeps.refl _⟩
  case round =>
    clear hr hL
    obtain ⟨k, M, hk, rfl, hr, hL, hMl, hown, hK⟩ := hrel
    by_cases hlt : k < l.length
    · have hltI := Int.ofNat_lt.2 hlt
      rw [bytesE_drop l k hlt] at hr
      rw [insBs_drop l k hlt] at hL
      obtain ⟨cb, off, rfl, hcell⟩ := hcells.out k hlt
      have e0 : (l.map insC).getD k [] = insC l[k] := by simp [List.getD, hlt]
      rw [e0] at hcell
      generalize l[k] = x at *
      have fc := check_any x
      have hg : errM x = 0 → _ := errM_right (i := x)
      generalize errM x = er at *
      obtain ⟨op, dst, src, off', imm⟩ := x
      have y0 := (hK.cell (cell_lt (hcell 0 (by decide)))).trans (hcell 0 (by decide))
      have y1 := (hK.cell (cell_lt (hcell 1 (by decide)))).trans (hcell 1 (by decide))
      have y2 := (hK.cell (cell_lt (hcell 2 (by decide)))).trans (hcell 2 (by decide))
      have y3 := (hK.cell (cell_lt (hcell 3 (by decide)))).trans (hcell 3 (by decide))
      have y4 := (hK.cell (cell_lt (hcell 4 (by decide)))).trans (hcell 4 (by decide))
      clear hcell e0
      simp only [insC, List.getD_cons_zero, List.getD_cons_succ, Nat.add_zero] at y0 y1 y2 y3 y4
      have hB := Blk.new wr 34 (insC ⟨op, dst, src, off', imm⟩)
      have hKa := Keeps.alloc wr (.cells (insC ⟨op, dst, src, off', imm⟩).toArray 34)
      obtain ⟨G, eG⟩ : ∃ G, G = wr.heap.size := ⟨_, rfl⟩
      rw [← eG] at hB
      replace hown := Lib.hid (own_keeps hown hKa)
      replace hK := Lib.hid (hK.trans hKa)
      replace hB := Lib.hid hB
      replace eG := Lib.hid eG
      replace hg := Lib.hid hg
      replace hr := Lib.hid hr
      replace hL := Lib.hid hL
      replace hMl := Lib.hid hMl
      replace fc := Lib.hid fc
      clear hKa
      go_upto_region 5 with (fail)
      rw [← eG.out]
      refine wp_gen (fun W => Blk W G 34 (insC ⟨op, dst, src, off', imm⟩) ∧ W.ownsRow w.heap.size 5 1 u4 (8 * k) (M.map (Value.int .u8)) ∧ Keeps w W) ⟨hB.out, hown.out, hK.out⟩ ?_
      clear hB hown hK eG y0 y1 y2 y3 y4
      rintro W ⟨hB, hown, hK⟩
      obtain ⟨y0, y1, y2, y3, y4⟩ := insBlk hB
      go_wp2_with fail
      replace hB := Lib.hid hB
      replace hown := Lib.hid hown
      replace hK := Lib.hid hK
      have fc2 := fc.out W
      simp only [insV] at fc2
      with_reducible refine fc2.mono ?_
      clear fc2 y0 y1 y2 y3 y4
      rintro e W1 ⟨rfl, hK1⟩
      have hB1 := hB.out.keeps hK1
      have hown1 := own_keeps hown.out hK1
      have hK2 := hK.out.trans hK1
      clear hB hown hK hK1
      replace hB1 := Lib.hid hB1
      replace hown1 := Lib.hid hown1
      replace hK2 := Lib.hid hK2
      by_cases he : er = 0
      · obtain ⟨hcl, d0, d1, s0, s1, o0, o1, i0, i1⟩ := hg.out he
        replace hcl := Lib.hid hcl
        have hr2 := hr.out
        rw [if_pos he] at hr2
        replace hr2 := Lib.hid hr2
        clear hr hg
        subst he
        go_upto_region 8 with (fail)
        refine wp_gen (fun W => Blk W G 34 (insC ⟨op, dst, src, off', imm⟩) ∧ W.ownsRow w.heap.size 5 1 u4 (8 * k) (M.map (Value.int .u8)) ∧ Keeps w W) ⟨hB1.out, hown1.out, hK2.out⟩ ?_
        clear hB1 hown1 hK2
        rintro W2 ⟨hB, hown, hK⟩
        obtain ⟨y0, y1, y2, y3, y4⟩ := insBlk hB
        replace hB := Lib.hid hB
        replace hown := Lib.hid hown
        replace hK := Lib.hid hK
        have hor := or_nib d0 d1 s0 s1
        have hsrc : Byts (W2.alloc (.cells #[.int .u8 (op % 256), .int .u8 (dst * 16 + src)] 5)) (.slice (some ⟨W2.heap.size, 0, none⟩) 2 2) [op % 256, dst * 16 + src] := (Blk.new W2 5 [.int .u8 (op % 256), .int .u8 (dst * 16 + src)]).slc 2 2 (by simp) (by simp) (by unfold maxLen; omega)
        have hK0 := Keeps.alloc W2 (.cells #[.int .u8 (op % 256), .int .u8 (dst * 16 + src)] 5)
        have hown0 := own_keeps hown.out hK0
        have hbs := hK.out.size
        have hbs2 := Nat.le_trans hbs hK0.size
        have hne := own_ne hown.out hB.out (by decide)
        have hB0 := hB.out.keeps hK0
        have hKb := hK.out.trans hK0
        replace hsrc := Lib.hid hsrc
        replace hown0 := Lib.hid hown0
        replace hbs2 := Lib.hid hbs2
        replace hne := Lib.hid hne
        replace hB0 := Lib.hid hB0
        replace hKb := Lib.hid hKb
        clear hbs hK0 hown hB hK
        go_wp2_with (at_builtin; refine appS rfl _ _ 38 5 (.int .u8 0) 1 rfl Tryd.underlying38 infoU8 rfl w.heap.size _ (8 * k) _ rfl hown0.out _ _ rfl hsrc.out (byte_ones _) ?_ ?_ hbs2.out ?_; rotate_left; rotate_left; intro v3 W3 hown3 hgrow hbel; have hB3 := hB0.out.kept hgrow hne.out; clear y0 y1 y2 y3 y4; obtain ⟨y0, y1, y2, y3, y4⟩ := insBlk hB3; replace hB3 := Lib.hid hB3; replace hown3 := Lib.hid hown3; replace hbel := Lib.hid hbel; clear hown0 hgrow)
        case refine_1 => unfold maxLen; simp only [List.length_map, List.length_cons, List.length_nil]; omega
        case refine_2 => simp only [List.length_map, List.length_cons, List.length_nil]; omega
        have hown3' : W3.ownsRow w.heap.size 5 1 v3 (8 * k + 2) ((M ++ [op % 256, dst * 16 + src]).map (Value.int .u8)) := by rw [List.map_append]; exact hown3.out
        have hK3 := Below.trans hKb.out hbel.out
        clear hB0 hne hown3 hKb hbel hbs2 hsrc
        replace hown3' := Lib.hid hown3'
        replace hK3 := Lib.hid hK3
        go_wp2_with fail
        have fl : Calls Tryd.prog 33 #[.int .i64 off', .int .i64 2] W3 _ := low_any off' 2 (by omega) (by omega) (by omega) W3
        with_reducible refine fl.mono ?_
        clear fl y0 y1 y2 y3 y4
        rintro e W5 ⟨v5, rfl, hl5, hK5⟩
        have hB5 := hB3.out.keeps hK5
        have hown5 := own_keeps hown3'.out hK5
        have hKb5 := Keeps.trans hK3.out hK5
        have hne5 := own_ne hown5 hB5 (by decide)
        have hbs5 : w.heap.size ≤ W5.heap.size := hKb5.size
        clear hB3 hown3' hK3 hK5
        replace hl5 := Lib.hid hl5
        replace hB5 := Lib.hid hB5
        replace hown5 := Lib.hid hown5
        replace hKb5 := Lib.hid hKb5
        replace hne5 := Lib.hid hne5
        replace hbs5 := Lib.hid hbs5
        go_wp2_with (at_builtin; refine appS rfl _ _ 38 5 (.int .u8 0) 1 rfl Tryd.underlying38 infoU8 rfl w.heap.size _ (8 * k + 2) _ rfl hown5.out _ _ rfl hl5.out (byte_ones _) ?_ ?_ hbs5.out ?_; rotate_left; rotate_left; intro v6 W6 hown6 hgrow hbel; have hB6 := hB5.out.kept hgrow hne5.out; obtain ⟨y0, y1, y2, y3, y4⟩ := insBlk hB6; replace hB6 := Lib.hid hB6; replace hown6 := Lib.hid hown6; replace hbel := Lib.hid hbel; clear hgrow hown5)
        case refine_1 => unfold maxLen; simp only [List.length_map, lowL_len]; omega
        case refine_2 => simp only [List.length_map, lowL_len]; omega
        have hK6 := Below.trans hKb5.out hbel.out
        have hown6' : W6.ownsRow w.heap.size 5 1 v6 (8 * k + 4) ((M ++ [op % 256, dst * 16 + src] ++ lowL off' 2).map (Value.int .u8)) := by
          have := hown6.out
          rw [List.length_map, lowL_len, ← List.map_append] at this
          exact this
        clear hB5 hne5 hown6 hKb5 hbel hbs5 hl5
        replace hown6' := Lib.hid hown6'
        replace hK6 := Lib.hid hK6
        go_wp2_with fail
        have fl : Calls Tryd.prog 33 #[.int .i64 imm, .int .i64 4] W6 _ := low_any imm 4 (by omega) (by omega) (by omega) W6
        with_reducible refine fl.mono ?_
        clear fl y0 y1 y2 y3 y4
        rintro e W7 ⟨v7, rfl, hl7, hK7⟩
        have hown7 := own_keeps hown6'.out hK7
        have hKb7 := Keeps.trans hK6.out hK7
        have hbs7 : w.heap.size ≤ W7.heap.size := hKb7.size
        clear hB6 hown6' hK6 hK7
        replace hl7 := Lib.hid hl7
        replace hown7 := Lib.hid hown7
        replace hKb7 := Lib.hid hKb7
        replace hbs7 := Lib.hid hbs7
        go_wp2_with (at_builtin; refine appS rfl _ _ 38 5 (.int .u8 0) 1 rfl Tryd.underlying38 infoU8 rfl w.heap.size _ (8 * k + 4) _ rfl hown7.out _ _ rfl hl7.out (byte_ones _) ?_ ?_ hbs7.out ?_; rotate_left; rotate_left; intro v8 W8 hown8 hgrow hbel; replace hown8 := Lib.hid hown8; replace hbel := Lib.hid hbel; clear hgrow hown7)
        case refine_1 => unfold maxLen; simp only [List.length_map, lowL_len]; omega
        case refine_2 => simp only [List.length_map, lowL_len]; omega
        go_roundw
        case rel =>
          have hmod : (dst * 16 + src) % 256 = dst * 16 + src := by omega
          refine ⟨k + 1, M ++ insB ⟨op, dst, src, off', imm⟩, by omega, by go_num, hr2.out, ?_, ?_, ?_, Below.trans hKb7.out hbel.out⟩
          · rw [List.append_assoc]; exact hL.out
          · rw [List.length_append, insB_len, hMl.out]; omega
          · have := hown8.out
            rw [List.length_map, lowL_len, ← List.map_append] at this
            rw [show 8 * (k + 1) = 8 * k + 4 + 4 by omega]
            refine Eq.mp ?_ this
            unfold insB
            simp only [hmod, List.append_assoc, List.cons_append, List.nil_append]
        case measure => (simp [intOf]; try omega)
      · have hr2 := hr.out
        rw [if_neg he] at hr2
        have heb : (er == 0) = false := by rw [beq_eq_false_iff_ne]; exact he
        have heb2 : (er != 0) = true := by rw [bne, heb]; rfl
        have hr3 : ¬ r = 0 := by rw [hr2]; exact he
        replace hr2 := Lib.hid hr2
        replace hr3 := Lib.hid hr3
        clear hr he hg
        go_wp2_with fail
        go_ret2
        exact ⟨_, by rw [hr2.out]; rfl, by rw [hR.out, if_neg hr3.out]; exact Slc.nil _, hK2.out⟩
    · have hjk : k = l.length := by omega
      have hltI : ¬ (k : Int) < (l.length : Int) := by omega
      have hr2 : r = 0 := by rw [hr, hjk, List.drop_length]; rfl
      have hfin : L = M := by rw [hL, hjk, List.drop_length]; simp
      have hsl := slc_of_row hown
      replace hfin := Lib.hid hfin
      replace hr2 := Lib.hid hr2
      replace hsl := Lib.hid hsl
      replace hK := Lib.hid hK
      clear hown hr hL hMl hjk
      go_wp2_with fail
      go_ret2
      exact ⟨_, by rw [hr2.out]; rfl, by rw [hR.out, if_pos hr2.out, hfin.out]; exact hsl.out, hK.out⟩
end Go.Proofs.YtmmglikbajiepaaDoor
