/- isa.Parse: the walk. -/
import Derived.Test.YtmmglikbajiepaaDoorIsaP
namespace Go.Proofs.YtmmglikbajiepaaDoor
open Go.RowKit

theorem infoIns : (Tryd.prog.info? 34).map (fun i => (i.zero, i.size, i.bytes)) = some (some (.agg #[.int .i64 0, .int .i64 0, .int .i64 0, .int .i64 0, .int .i64 0]), 5, 40) := by kernel_rfl
theorem insC_one (i : InsS) : ∀ y ∈ insC i, y.oneCell' = true := by
  intro y hy
  simp only [insC, List.mem_cons, List.not_mem_nil, or_false] at hy
  rcases hy with rfl | rfl | rfl | rfl | rfl <;> rfl
theorem Byts.cellAt {w : World} {cb off n cap : Nat} {l : List Int} (h : Byts w (.slice (some ⟨cb, off, none⟩) n cap) l) (k : Nat) (hk : k < l.length) : w.cell? ⟨cb, off + k, none⟩ = some (.int .u8 (l.getD k 0)) := by
  obtain ⟨q, cp, hv, hl, hc, hn, hcell⟩ := h
  obtain ⟨b', off', hp, hx⟩ := hcell k (by rw [List.length_map]; exact hk)
  simp only [Value.slice.injEq] at hv
  obtain ⟨rfl, _, _⟩ := hv
  simp only [Option.some.injEq, Addr.mk.injEq] at hp
  obtain ⟨rfl, rfl, _⟩ := hp
  rw [hx]
  simp [List.getD_eq_getElem?_getD, hk]
theorem getD_rng {l : List Int} (h : ∀ z ∈ l, 0 ≤ z ∧ z < 256) (k : Nat) : 0 ≤ l.getD k 0 ∧ l.getD k 0 < 256 := by
  by_cases hk : k < l.length
  · rw [List.getD_eq_getElem?_getD, List.getElem?_eq_getElem hk]
    exact h _ (List.getElem_mem hk)
  · rw [List.getD_eq_getElem?_getD, List.getElem?_eq_none (by omega)]
    exact ⟨by simp, by simp⟩
theorem RowS.keepsI {sz base : Nat} {e : TypeId} {W W' : World} {v : Value} {els : List (List Value)} (h : RowS sz base e W v els) (hk : Keeps W W') : RowS sz base e W' v els := ⟨own_keeps h.1 hk, h.2⟩
theorem Byts.keeps {W W' : World} {v : Value} {l : List Int} (h : Byts W v l) (hk : Keeps W W') : Byts W' v l := Slc.below h hk
set_option maxRecDepth 100000 in
set_option maxHeartbeats 2000000 in
theorem parse_any (b : List Int) (hl : b.length ≤ 1000) (hb : ∀ z ∈ b, 0 ≤ z ∧ z < 256) (v : Value) (w : World) (hv : Byts w v b) : Calls Tryd.prog 20 #[v] w fun e w' => ∃ v', e = .returned (.tuple #[v', .int .i64 ((parseM b).2.1 : Int), .int .i64 (parseM b).2.2]) ∧ SlcS 5 w' v' ((parseM b).1.map insC) ∧ Keeps w w' := by
  obtain ⟨r, hr⟩ : ∃ r, r = parseM b := ⟨_, rfl⟩
  rw [← hr]
  obtain ⟨r1, r2, r3⟩ := r
  replace hr := Lib.hid hr
  simp only
  replace hv := Lib.hid hv
  go_enter Tryd.func20, Tryd.ntmps20
  go_wp2_with fail
  go_loopw [0, 5] (fun sv ov wr => ∃ (l : List Int) (M : List InsS), At b l M ∧ Byts w sv l ∧ RowS 5 w.heap.size 34 wr ov (M.map insC) ∧ Keeps w wr) (fun sv _ _ => match sv with | .slice _ n _ => n | _ => 0)
  case atStart => exact ⟨b, [], At.start b, hv.out, RowS.nil _ _ _ _, Keeps.refl _⟩
  case round =>
    clear hv
    obtain ⟨l, M, hAt, hsl0, hrow, hK⟩ := hrel
    have hsl := Byts.keeps hsl0 hK
    have hlen := hAt.len
    have hlb : ∀ z ∈ l, 0 ≤ z ∧ z < 256 := fun z hz => hb z (by rw [hAt.sub] at hz; exact List.mem_of_mem_drop hz)
    obtain ⟨p, cap, rfl, hlc, hcm, hn, hcell⟩ := id hsl
    rw [List.length_map] at hlc hcell hsl hsl0 ⊢
    by_cases h8 : 8 ≤ l.length
    · have h8I : (8 : Int) ≤ (l.length : Int) := by omega
      obtain ⟨cb, off, rfl, _⟩ := hcell 0 (by omega)
      have fo := one_any cb off 8 (l.getD 0 0) (l.getD 1 0) (l.getD 2 0) (l.getD 3 0) (l.getD 4 0) (l.getD 5 0) (l.getD 6 0) (l.getD 7 0) wr ⟨getD_rng hlb 0, getD_rng hlb 1, getD_rng hlb 2, getD_rng hlb 3, getD_rng hlb 4, getD_rng hlb 5, getD_rng hlb 6, getD_rng hlb 7⟩
        ⟨hsl.cellAt 0 (by omega), hsl.cellAt 1 (by omega), hsl.cellAt 2 (by omega), hsl.cellAt 3 (by omega), hsl.cellAt 4 (by omega), hsl.cellAt 5 (by omega), hsl.cellAt 6 (by omega), hsl.cellAt 7 (by omega)⟩
      change Calls _ _ _ _ fun e w' => e = .returned (insV (insAt8 l)) ∧ _ at fo
      have fc := check_any (insAt8 l)
      have hnext := hAt.next h8
      have hstop := hAt.stop h8
      obtain ⟨ad, had, hdr⟩ := Slc.dropAny hsl0 8 (by rw [List.length_map]; exact h8)
      rw [← List.map_drop] at hdr
      generalize insAt8 l = x at *
      have hoi := hlc
      have hcI : (8 : Int) ≤ (cap : Int) := by omega
      replace fo := Lib.hid fo
      replace fc := Lib.hid fc
      replace hnext := Lib.hid hnext
      replace hstop := Lib.hid hstop
      replace hdr := Lib.hid hdr
      replace hrow := Lib.hid hrow
      replace hK := Lib.hid hK
      replace hAt := Lib.hid hAt
      replace hlb := Lib.hid hlb
      clear hcell hn hsl hsl0
      go_wp2_with fail
      with_reducible refine fo.out.mono ?_
      rintro e W1 ⟨rfl, hK1⟩
      have hB := Blk.new W1 34 (insC x)
      have hKa := Keeps.alloc W1 (.cells (insC x).toArray 34)
      obtain ⟨G, eG⟩ : ∃ G, G = W1.heap.size := ⟨_, rfl⟩
      rw [← eG] at hB
      have hrow1 := RowS.keepsI (RowS.keepsI hrow.out hK1) hKa
      have hKb := (hK.out.trans hK1).trans hKa
      obtain ⟨op, dst, src, off', imm⟩ := x
      simp only [insV]
      clear fo hrow hK hK1 hKa
      replace hB := Lib.hid hB
      replace hrow1 := Lib.hid hrow1
      replace hKb := Lib.hid hKb
      replace eG := Lib.hid eG
      go_upto_region 4 with (fail)
      rw [← eG.out]
      refine wp_gen (fun W => Blk W G 34 (insC ⟨op, dst, src, off', imm⟩) ∧ RowS 5 w.heap.size 34 W u5 (M.map insC) ∧ Keeps w W) ⟨hB.out, hrow1.out, hKb.out⟩ ?_
      clear hB hrow1 hKb eG
      rintro W2 ⟨hB, hrow, hK⟩
      obtain ⟨y0, y1, y2, y3, y4⟩ := insBlk hB
      replace hB := Lib.hid hB
      replace hrow := Lib.hid hrow
      replace hK := Lib.hid hK
      have fc2 := fc.out W2
      simp only [insV] at fc2
      generalize errM ⟨op, dst, src, off', imm⟩ = er at *
      replace fc2 := Lib.hid fc2
      clear fc
      go_wp2_with fail
      with_reducible refine fc2.out.mono ?_
      rintro e W3 ⟨rfl, hK3⟩
      have hB3 := hB.out.keeps hK3
      have hrow3 := RowS.keepsI hrow.out hK3
      have hK4 := hK.out.trans hK3
      clear fc2 y0 y1 y2 y3 y4 hB hrow hK hK3
      by_cases he : er = 0
      · have hA2 := hnext.out he
        subst he
        obtain ⟨y0, y1, y2, y3, y4⟩ := insBlk hB3
        have hKa := Keeps.alloc W3 (.cells (insC ⟨op, dst, src, off', imm⟩).toArray 34)
        have hsrc := slcs_one (Blk.new W3 34 (insC ⟨op, dst, src, off', imm⟩)) (sz := 5) rfl
        have hrow4 := RowS.keepsI hrow3 hKa
        have hK5 := hK4.trans hKa
        have hbs := hK5.size
        have hlenI : M.length ≤ 1000 := by omega
        clear hrow3 hK4 hB3 hKa
        replace hsrc := Lib.hid hsrc
        replace hrow4 := Lib.hid hrow4
        replace hK5 := Lib.hid hK5
        replace hbs := Lib.hid hbs
        replace hA2 := Lib.hid hA2
        replace had := Lib.hid had
        clear hnext hstop
        go_wp2_with (at_builtin; refine appN rfl _ _ 44 34 _ 5 40 rfl Tryd.underlying44 infoIns rfl (by decide) w.heap.size _ _ rfl hrow4.out _ [insC ⟨op, dst, src, off', imm⟩] rfl hsrc.out (fun el he => by obtain rfl := List.mem_singleton.1 he; exact insC_one _) ?_ ?_ hbs.out ?_; rotate_left; rotate_left; intro v5 W5 hrow5 hgrow hbel; replace hrow5 := Lib.hid hrow5; replace hbel := Lib.hid hbel; replace hgrow := Lib.hid hgrow; replace had := had.out)
        case refine_1 => unfold maxLen; simp only [List.length_map, List.length_singleton]; omega
        case refine_2 => simp only [List.length_map, List.length_singleton]; omega
        go_roundw
        case rel =>
          exact ⟨l.drop 8, M ++ [⟨op, dst, src, off', imm⟩], hA2.out, hdr.out, by rw [List.map_append]; exact hrow5.out, Below.trans hK5.out hbel.out⟩
        case measure => (simp only []; omega)
      · have hst := hstop.out he
        have heb : (er == 0) = false := by rw [beq_eq_false_iff_ne]; exact he
        have heb2 : (er != 0) = true := by rw [bne, heb]; rfl
        have hr2 := hr.out.trans hst
        obtain ⟨q, qc, rfl⟩ := hrow3.any
        simp only [Prod.mk.injEq] at hr2
        obtain ⟨e1, e2, e3⟩ := hr2
        rw [List.length_map] at hrow3 ⊢
        replace e1 := Lib.hid e1
        replace e2 := Lib.hid e2
        replace e3 := Lib.hid e3
        replace hK4 := Lib.hid hK4
        clear hst hnext hstop hAt hlb hr hB3 hrow3 he hdr had
        go_wp2_with fail
        go_ret3
        exact ⟨_, by rw [e2.out, e3.out]; rfl, by rw [e1.out]; exact SlcS.nil 5 _, hK4.out⟩
    · have h8I : ¬ (8 : Int) ≤ (l.length : Int) := by omega
      have hov := hAt.over (by omega)
      have hr2 := hr.out.trans hov
      obtain ⟨q, qc, rfl⟩ := hrow.any
      rw [List.length_map] at hrow ⊢
      clear hAt hr hov hsl hsl0 hcell hn
      by_cases hl0 : 0 < l.length
      · have hl0I : (0 : Int) < (l.length : Int) := by omega
        rw [if_pos hl0] at hr2
        simp only [Prod.mk.injEq] at hr2
        obtain ⟨e1, e2, e3⟩ := hr2
        replace e1 := Lib.hid e1
        replace e2 := Lib.hid e2
        replace e3 := Lib.hid e3
        replace hK := Lib.hid hK
        clear hrow
        go_wp2_with fail
        go_ret3
        exact ⟨_, by rw [e2.out, e3.out]; rfl, by rw [e1.out]; exact SlcS.nil 5 _, hK.out⟩
      · have hl0I : ¬ (0 : Int) < (l.length : Int) := by omega
        rw [if_neg hl0] at hr2
        simp only [Prod.mk.injEq] at hr2
        obtain ⟨e1, e2, e3⟩ := hr2
        replace e1 := Lib.hid e1
        replace e2 := Lib.hid e2
        replace e3 := Lib.hid e3
        replace hK := Lib.hid hK
        have hsl5 := Lib.hid hrow.slcs
        clear hrow
        go_wp2_with fail
        go_ret3
        exact ⟨_, by rw [e2.out, e3.out]; rfl, by rw [e1.out]; exact hsl5.out, hK.out⟩
end Go.Proofs.YtmmglikbajiepaaDoor
