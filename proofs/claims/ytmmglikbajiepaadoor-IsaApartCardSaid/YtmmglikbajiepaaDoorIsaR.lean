/- detentref15.Parse: the walk. -/
import Derived.Test.YtmmglikbajiepaaDoorIsaQ
import Derived.Test.YtmmglikbajiepaaDoorIsaJ
namespace Go.Proofs.YtmmglikbajiepaaDoor
open Go.RowKit

theorem infoRIns : (Tryd.prog.info? 29).map (fun i => (i.zero, i.size, i.bytes)) = some (some (.agg #[.int .i64 0, .int .i64 0, .int .i64 0, .int .i64 0, .int .i64 0]), 5, 40) := by kernel_rfl
set_option maxRecDepth 100000 in
set_option maxHeartbeats 2000000 in
theorem rparse_any (b : List Int) (hl : b.length ≤ 1000) (hb : ∀ z ∈ b, 0 ≤ z ∧ z < 256) (v : Value) (w : World) (hv : Byts w v b) : Calls Tryd.prog 21 #[v] w fun e w' => ∃ v', e = .returned (.tuple #[v', .int .i64 ((parseM b).2.1 : Int), .int .i64 (parseM b).2.2]) ∧ SlcS 5 w' v' ((parseM b).1.map insC) ∧ Keeps w w' := by
  obtain ⟨r, hr⟩ : ∃ r, r = parseM b := ⟨_, rfl⟩
  rw [← hr]
  obtain ⟨r1, r2, r3⟩ := r
  replace hr := Lib.hid hr
  simp only
  obtain ⟨p, cap, rfl, hlc, hcm, hn, hcell⟩ := id hv
  rw [List.length_map] at hlc hcell hv ⊢
  replace hv := Lib.hid hv
  replace hcell := Lib.hid hcell
  clear hn
  go_enter Tryd.func21, Tryd.ntmps21
  go_wp2_with fail
  go_loopw [5] (fun ov wr => ∃ (l : List Int) (M : List InsS), At b l M ∧ RowS 5 w.heap.size 29 wr ov (M.map insC) ∧ Keeps w wr) (fun ov _ => match ov with | .slice _ n _ => 1000 - n | _ => 0)
  case atStart => exact ⟨b, [], At.start b, RowS.nil _ _ _ _, Keeps.refl _⟩
  case round =>
    obtain ⟨l, M, hAt, hrow, hK⟩ := hrel
    have hsl := Byts.keeps hv.out hK
    have hlen := hAt.len
    have hlb : ∀ z ∈ l, 0 ≤ z ∧ z < 256 := fun z hz => hb z (by rw [hAt.sub] at hz; exact List.mem_of_mem_drop hz)
    have hgd : ∀ j, b.getD (8 * M.length + j) 0 = l.getD j 0 := fun j => by rw [hAt.sub]; simp [List.getD_eq_getElem?_getD, List.getElem?_drop]
    obtain ⟨q, qc, rfl⟩ := hrow.any
    rw [List.length_map] at hrow ⊢
    by_cases h8 : 8 ≤ l.length
    · have h8I : (8 : Int) ≤ (l.length : Int) := by omega
      obtain ⟨cb, off, rfl, _⟩ := hcell.out 0 (by omega)
      have hc : ∀ j, j < 8 → wr.cell? ⟨cb, off + 8 * M.length + j, none⟩ = some (.int .u8 (l.getD j 0)) := fun j hj => by
        rw [← hgd j, Nat.add_assoc]
        exact hsl.cellAt _ (by omega)
      have fo := rone_any cb (off + 8 * M.length) (cap - 8 * M.length) (l.getD 0 0) (l.getD 1 0) (l.getD 2 0) (l.getD 3 0) (l.getD 4 0) (l.getD 5 0) (l.getD 6 0) (l.getD 7 0) wr ⟨getD_rng hlb 0, getD_rng hlb 1, getD_rng hlb 2, getD_rng hlb 3, getD_rng hlb 4, getD_rng hlb 5, getD_rng hlb 6, getD_rng hlb 7⟩
        ⟨hc 0 (by omega), hc 1 (by omega), hc 2 (by omega), hc 3 (by omega), hc 4 (by omega), hc 5 (by omega), hc 6 (by omega), hc 7 (by omega)⟩
      change Calls _ _ _ _ fun e w' => e = .returned (insV (insAt8 l)) ∧ _ at fo
      have fc := rcheck_any (insAt8 l)
      have hnext := hAt.next h8
      have hstop := hAt.stop h8
      generalize insAt8 l = x at *
      obtain ⟨k, hk⟩ : ∃ k, k = M.length := ⟨_, rfl⟩
      rw [← hk] at fo hlen hrow ⊢
      replace hk := Lib.hid hk
      have g1 : 8 * (k : Int) + 8 ≤ (b.length : Int) := by omega
      have g2 : k ≤ 1000 := by omega
      have g0 : 0 ≤ (k : Int) := by omega
      have g3 : (8 * (k : Int)).toNat = 8 * k := by omega
      have g4 : (8 * (k : Int) + 8).toNat = 8 * k + 8 := by omega
      have g5 : ¬ cap = 8 * k := by omega
      have g6 : 8 * (k : Int) + 8 ≤ (cap : Int) := by omega
      have g7 : 8 * k + 8 - 8 * k = 8 := by omega
      have hcm2 : cap ≤ 9223372036854775807 := hcm
      replace fo := Lib.hid fo
      replace fc := Lib.hid fc
      replace hnext := Lib.hid hnext
      replace hstop := Lib.hid hstop
      replace hrow := Lib.hid hrow
      replace hK := Lib.hid hK
      replace hAt := Lib.hid hAt
      replace hlb := Lib.hid hlb
      clear hsl hc hgd
      go_wp2_with fail
      with_reducible refine fo.out.mono ?_
      rintro e W1 ⟨rfl, hK1⟩
      have hB := Blk.new W1 29 (insC x)
      have hKa := Keeps.alloc W1 (.cells (insC x).toArray 29)
      obtain ⟨G, eG⟩ : ∃ G, G = W1.heap.size := ⟨_, rfl⟩
      rw [← eG] at hB
      have hrow1 := RowS.keepsI (RowS.keepsI hrow.out hK1) hKa
      have hKb := (hK.out.trans hK1).trans hKa
      obtain ⟨op, dst, src, off', imm⟩ := x
      simp only [insV]
      clear fo hrow hK hK1 hKa
      replace hB := Lib.hid hB
      replace hrow1 := Lib.hid hrow1
      replace hKb := Lib.hid hKb
      replace eG := Lib.hid eG
      go_upto_region 4 with (fail)
      rw [← eG.out]
      refine wp_gen (fun W => Blk W G 29 (insC ⟨op, dst, src, off', imm⟩) ∧ RowS 5 w.heap.size 29 W (.slice q k qc) (M.map insC) ∧ Keeps w W) ⟨hB.out, hrow1.out, hKb.out⟩ ?_
      clear hB hrow1 hKb eG
      rintro W2 ⟨hB, hrow, hK⟩
      obtain ⟨y0, y1, y2, y3, y4⟩ := insBlk hB
      replace hB := Lib.hid hB
      replace hrow := Lib.hid hrow
      replace hK := Lib.hid hK
      have fc2 := fc.out W2
      simp only [insV] at fc2
      generalize errM ⟨op, dst, src, off', imm⟩ = er at *
      replace fc2 := Lib.hid fc2
      clear fc
      go_wp2_with fail
      with_reducible refine fc2.out.mono ?_
      rintro e W3 ⟨rfl, hK3⟩
      have hB3 := hB.out.keeps hK3
      have hrow3 := RowS.keepsI hrow.out hK3
      have hK4 := hK.out.trans hK3
      clear fc2 y0 y1 y2 y3 y4 hB hrow hK hK3
      by_cases he : er = 0
      · have hA2 := hnext.out he
        subst he
        obtain ⟨y0, y1, y2, y3, y4⟩ := insBlk hB3
        have hKa := Keeps.alloc W3 (.cells (insC ⟨op, dst, src, off', imm⟩).toArray 29)
        have hsrc := slcs_one (Blk.new W3 29 (insC ⟨op, dst, src, off', imm⟩)) (sz := 5) rfl
        have hrow4 := RowS.keepsI hrow3 hKa
        have hK5 := hK4.trans hKa
        have hbs := hK5.size
        have hlenI : M.length ≤ 1000 := by rw [← hk.out]; omega
        clear hrow3 hK4 hB3 hKa
        replace hsrc := Lib.hid hsrc
        replace hrow4 := Lib.hid hrow4
        replace hK5 := Lib.hid hK5
        replace hbs := Lib.hid hbs
        replace hA2 := Lib.hid hA2
        clear hnext hstop
        go_wp2_with (at_builtin; refine appN rfl _ _ 43 29 _ 5 40 rfl Tryd.underlying43 infoRIns rfl (by decide) w.heap.size _ _ rfl hrow4.out _ [insC ⟨op, dst, src, off', imm⟩] rfl hsrc.out (fun el he => by obtain rfl := List.mem_singleton.1 he; exact insC_one _) ?_ ?_ hbs.out ?_; rotate_left; rotate_left; intro v5 W5 hrow5 hgrow hbel; replace hrow5 := Lib.hid hrow5; replace hbel := Lib.hid hbel; replace hgrow := Lib.hid hgrow)
        case refine_1 => unfold maxLen; simp only [List.length_map, List.length_singleton]; omega
        case refine_2 => simp only [List.length_map, List.length_singleton]; omega
        obtain ⟨q5, c5, hv5⟩ := hrow5.out.any
        subst hv5
        go_roundw
        case rel =>
          exact ⟨l.drop 8, M ++ [⟨op, dst, src, off', imm⟩], hA2.out, by rw [List.map_append]; exact hrow5.out, Below.trans hK5.out hbel.out⟩
        case measure => (simp only [List.length_append, List.length_map, List.length_singleton, ← hk.out]; omega)
      · have hst := hstop.out he
        have heb : (er == 0) = false := by rw [beq_eq_false_iff_ne]; exact he
        have heb2 : (er != 0) = true := by rw [bne, heb]; rfl
        have hr2 := hr.out.trans hst
        simp only [Prod.mk.injEq] at hr2
        obtain ⟨e1, e2, e3⟩ := hr2
        replace e1 := Lib.hid e1
        replace e2 := Lib.hid e2
        replace e3 := Lib.hid e3
        replace hK4 := Lib.hid hK4
        clear hst hnext hstop hAt hlb hr hB3 hrow3 he
        go_wp2_with fail
        go_ret3
        exact ⟨_, by rw [e2.out, e3.out, ← hk.out]; rfl, by rw [e1.out]; exact SlcS.nil 5 _, hK4.out⟩
    · have h8I : ¬ 8 * (M.length : Int) + 8 ≤ (b.length : Int) := by omega
      have hov := hAt.over (by omega)
      have hr2 := hr.out.trans hov
      have hmod : (b.length : Int).tmod 8 = (l.length : Int) := by rw [Int.tmod_eq_emod_of_nonneg (by omega)]; omega
      have g2 : M.length ≤ 1000 := by omega
      clear hAt hr hov hsl hgd hlb
      by_cases hl0 : 0 < l.length
      · have hl0I : (0 : Int) < (l.length : Int) := by omega
        rw [if_pos hl0] at hr2
        simp only [Prod.mk.injEq] at hr2
        obtain ⟨e1, e2, e3⟩ := hr2
        replace e1 := Lib.hid e1
        replace e2 := Lib.hid e2
        replace e3 := Lib.hid e3
        replace hK := Lib.hid hK
        clear hrow
        go_wp2_with fail
        go_ret3
        exact ⟨_, by rw [e2.out, e3.out]; rfl, by rw [e1.out]; exact SlcS.nil 5 _, hK.out⟩
      · have hl0I : ¬ (0 : Int) < (l.length : Int) := by omega
        rw [if_neg hl0] at hr2
        simp only [Prod.mk.injEq] at hr2
        obtain ⟨e1, e2, e3⟩ := hr2
        replace e1 := Lib.hid e1
        replace e2 := Lib.hid e2
        replace e3 := Lib.hid e3
        replace hK := Lib.hid hK
        have hsl5 := Lib.hid hrow.slcs
        clear hrow
        go_wp2_with fail
        go_ret3
        exact ⟨_, by rw [e2.out, e3.out]; rfl, by rw [e1.out]; exact hsl5.out, hK.out⟩
end Go.Proofs.YtmmglikbajiepaaDoor
