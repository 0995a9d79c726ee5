/- The chapter's example. -/
import Derived.Test.YtanidaepfepppaaDoorAr5I
namespace Go.Proofs.YtanidaepfepppaaDoor.ArI
open Go.RowKit Go.Proofs.YtanidaepfepppaaDoor

/-- An arena that was made since w. -/
structure InvA (w : World) (p b : Nat) (l : List (Slot El)) (W : World) : Prop where
  ar : ArenaAt W p b l
  hp : w.heap.size ≤ p
  hb : w.heap.size ≤ b
  keeps : Keeps w W
theorem InvA.kept {w W W' : World} {p b : Nat} {l : List (Slot El)} (h : InvA w p b l W) (hk : Keeps W W') : InvA w p b l W' := ⟨h.ar.keeps hk, h.hp, h.hb, h.keeps.trans hk⟩
theorem InvA.chg {w W W' : World} {p b : Nat} {l l' : List (Slot El)} (h : InvA w p b l W) (ha : ArenaAt W' p b l') (hc : Chg (fun k => k = p ∨ k = b) W W') : InvA w p b l' W' :=
  ⟨ha, h.hp, h.hb, hc.keeps h.keeps fun k hk hs => by have h1 := h.hp; have h2 := h.hb; rcases hs with hs | hs <;> omega⟩
theorem InvA.free {w W : World} {p b : Nat} {l : List (Slot El)} (_h : InvA w p b l W) {c : Nat} {t : TypeId} {cs : List Value} (hB : Blk W c t cs) (hp : c ≠ p) (hb : c ≠ b) {l' : List (Slot El)} {W' : World} (_h' : ArenaAt W' p b l') (hc : Chg (fun k => k = p ∨ k = b) W W') : Blk W' c t cs :=
  hB.chg hc fun hs => hs.elim hp hb
theorem InvA.ne {w W : World} {p b : Nat} {l : List (Slot El)} (h : InvA w p b l W) : p < W.heap.size ∧ b < W.heap.size := ⟨h.ar.hdr.lt, h.ar.buf.lt⟩
def l0 : List (Slot El) := newL zEl 2
def l1 : List (Slot El) := [⟨1, true, 5⟩, ⟨1, false, 0⟩]
def l2 : List (Slot El) := [⟨1, true, 5⟩, ⟨1, true, 6⟩]
def l3 : List (Slot El) := [⟨2, false, 0⟩, ⟨1, true, 6⟩]
def l4 : List (Slot El) := [⟨2, true, 8⟩, ⟨1, true, 6⟩]
theorem slH {w : World} {b : Nat} {h : Int × Int} (hB : Blk w b 34 (hEl h)) : SlcS 2 w (.slice (some ⟨b, 0, none⟩) 1 1) ([h].map hEl) := slcs_one hB rfl
set_option maxRecDepth 100000 in
set_option maxHeartbeats 4000000 in
theorem known_any (w : World) (hT : TabAt w) : Calls Tryd.prog 13 #[] w fun e w' => e = .returned (.bool true) ∧ Keeps w w' := by
  have hnew := new_yes 2 w (by decide) (by decide)
  have hp1 := fun (W : World) (p b : Nat) (h : InvA w p b l0 W) => (put_ok h.ar (hT.keeps h.keeps) 0 rfl 5).mono fun e W' (hh : _ ∧ _ ∧ _) => (⟨hh.1, h.chg (l' := l1) hh.2.1 hh.2.2, hh.2.2⟩ : e = .returned (.tuple #[.agg #[.int .i64 0, .int .i64 1], .int .i64 0]) ∧ InvA w p b l1 W' ∧ Chg (fun k => k = p ∨ k = b) W W')
  have hp2 := fun (W : World) (p b : Nat) (h : InvA w p b l1 W) => (put_ok h.ar (hT.keeps h.keeps) 1 rfl 6).mono fun e W' (hh : _ ∧ _ ∧ _) => (⟨hh.1, h.chg (l' := l2) hh.2.1 hh.2.2, hh.2.2⟩ : e = .returned (.tuple #[.agg #[.int .i64 1, .int .i64 1], .int .i64 0]) ∧ InvA w p b l2 W' ∧ Chg (fun k => k = p ∨ k = b) W W')
  have hp3 := fun (W : World) (p b : Nat) (h : InvA w p b l2 W) => (put_full h.ar (hT.keeps h.keeps) rfl 7).mono fun e W' (hh : _ ∧ _) => (⟨hh.1, h.kept hh.2, hh.2⟩ : e = .returned (.tuple #[.agg #[.int .i64 0, .int .i64 0], .int .i64 3]) ∧ InvA w p b l2 W' ∧ Keeps W W')
  have hfr := fun (W : World) (p b c : Nat) (h : InvA w p b l2 W) (hB : Blk W c 34 (hEl (0, 1))) (hcp : c ≠ p) (hcb : c ≠ b) => (free_any h.ar [(0, 1)] _ (slH hB) (fun c' hc' _ => by simp [Value.ownBlock] at hc'; subst hc'; exact ⟨hcp, hcb⟩)).mono fun e W' (hh : _ ∧ _ ∧ _) => (⟨hh.1, h.chg (l' := l3) hh.2.1 hh.2.2, hh.2.2⟩ : e = .returned (.int .i64 0) ∧ InvA w p b l3 W' ∧ Chg (fun k => k = p ∨ k = b) W W')
  have hp4 := fun (W : World) (p b : Nat) (h : InvA w p b l3 W) => (put_ok h.ar (hT.keeps h.keeps) 0 rfl 8).mono fun e W' (hh : _ ∧ _ ∧ _) => (⟨hh.1, h.chg (l' := l4) hh.2.1 hh.2.2, hh.2.2⟩ : e = .returned (.tuple #[.agg #[.int .i64 0, .int .i64 2], .int .i64 0]) ∧ InvA w p b l4 W' ∧ Chg (fun k => k = p ∨ k = b) W W')
  have hg := fun (W : World) (p b : Nat) (h : InvA w p b l4 W) => (get_any h.ar 0 1).mono fun e W' (hh : _ ∧ _) => (⟨hh.1, h.kept hh.2, hh.2⟩ : e = .returned (.tuple #[.int .i64 0, .int .i64 7]) ∧ InvA w p b l4 W' ∧ Keeps W W')
  replace hp1 := Lib.hid hp1
  replace hp2 := Lib.hid hp2
  replace hp3 := Lib.hid hp3
  replace hp4 := Lib.hid hp4
  replace hfr := Lib.hid hfr
  replace hg := Lib.hid hg
  replace hT := Lib.hid hT
  go_enter Tryd.func13, Tryd.ntmps13
  go_wp2_with fail
  refine hnew.mono ?_
  rintro e w1 ⟨p, b, rfl, hA, hp, hb, hK⟩
  have hI0 : InvA w p b l0 w1 := ⟨hA, hp, hb, hK⟩
  have hc1 := hp1.out w1 p b hI0
  replace hI0 := Lib.hid hI0
  replace hc1 := Lib.hid hc1
  clear hA hp hb hK hnew hp1
  go_wp2_with fail
  refine hc1.out.mono ?_
  rintro e w2 ⟨rfl, hI, hC⟩
  have hplt := hI.ne
  replace hI := Lib.hid hI
  clear hC hI0 hc1
  go_upto_region 5 with (fail)
  have hgp : w2.heap.size ≠ p := by omega
  have hgb : w2.heap.size ≠ b := by omega
  refine wp_gen (fun W => InvA w p b l1 W ∧ Blk W w2.heap.size 34 (hEl (0, 1))) ⟨hI.out.kept (Keeps.alloc _ _), Blk.at rfl rfl⟩ ?_
  clear hI hplt
  generalize w2.heap.size = g1 at *
  rintro w3 ⟨hI, hH⟩
  have hc2 := hp2.out w3 p b hI
  replace hI := Lib.hid hI
  replace hc2 := Lib.hid hc2
  clear hp2
  go_wp2_with fail
  refine hc2.out.mono ?_
  rintro e w4 ⟨rfl, hI4, hC⟩
  have hH4 := hI.out.free hH hgp hgb hI4.ar hC
  have hplt := hI4.ne
  have hglt := hH4.lt
  replace hI4 := Lib.hid hI4
  replace hH4 := Lib.hid hH4
  clear hC hI hc2 hH
  go_upto_region 6 with (fail)
  have hgp2 : w4.heap.size ≠ p := by omega
  have hgb2 : w4.heap.size ≠ b := by omega
  have hg12 : g1 ≠ w4.heap.size := by omega
  refine wp_gen (fun W => InvA w p b l2 W ∧ Blk W g1 34 (hEl (0, 1)) ∧ Blk W w4.heap.size 34 (hEl (1, 1))) ⟨hI4.out.kept (Keeps.alloc _ _), hH4.out.keeps (Keeps.alloc _ _), Blk.at rfl rfl⟩ ?_
  clear hI4 hplt hH4 hglt
  generalize w4.heap.size = g2 at *
  rintro w5 ⟨hI, hH, hG⟩
  have hc3 := hp3.out w5 p b hI
  replace hI := Lib.hid hI
  replace hH := Lib.hid hH
  replace hG := Lib.hid hG
  replace hc3 := Lib.hid hc3
  clear hp3
  go_wp2_with fail
  refine hc3.out.mono ?_
  rintro e w6 ⟨rfl, hI6, hK6⟩
  have hH6 := hH.out.keeps hK6
  have hG6 := hG.out.keeps hK6
  replace hI6 := Lib.hid hI6
  replace hH6 := Lib.hid hH6
  replace hG6 := Lib.hid hG6
  clear hI hH hG hK6 hc3
  go_upto_region 7 with (fail)
  refine wp_gen (fun W => InvA w p b l2 W ∧ Blk W g1 34 (hEl (0, 1)) ∧ Blk W g2 34 (hEl (1, 1))) ⟨hI6.out.kept (Keeps.alloc _ _), hH6.out.keeps (Keeps.alloc _ _), hG6.out.keeps (Keeps.alloc _ _)⟩ ?_
  clear hI6 hH6 hG6
  rintro w7 ⟨hI, hH, hG⟩
  have a0 := hH.cell 0 (by simp [hEl])
  have a1 := hH.cell 1 (by simp [hEl])
  have b0 := hG.cell 0 (by simp [hEl])
  have b1 := hG.cell 1 (by simp [hEl])
  simp only [hEl, List.getElem_cons_zero, List.getElem_cons_succ] at a0 a1 b0 b1
  have hc4 := fun (W : World) (c : Nat) (hk : Keeps w7 W) (hB : Blk W c 34 (hEl (0, 1))) (h1 : c ≠ p) (h2 : c ≠ b) => hfr.out W p b c (hI.kept hk) hB h1 h2
  have hplt := hI.ne
  replace hI := Lib.hid hI
  replace hH := Lib.hid hH
  replace hG := Lib.hid hG
  replace hc4 := Lib.hid hc4
  clear hfr
  go_wp2_with fail
  refine (hc4.out _ _ (Keeps.alloc _ _) (Blk.at rfl rfl) (by omega) (by omega)).mono ?_
  rintro e w8 ⟨rfl, hI8, hC8⟩
  have hH8 := (hI.out.kept (Keeps.alloc _ _)).free (hH.out.keeps (Keeps.alloc _ _)) hgp hgb hI8.ar hC8
  have hc5 := hp4.out w8 p b hI8
  replace hI8 := Lib.hid hI8
  replace hH8 := Lib.hid hH8
  replace hc5 := Lib.hid hc5
  clear hC8 hI hH hG hc4 hp4 a0 a1 b0 b1 hplt
  go_wp2_with fail
  refine hc5.out.mono ?_
  rintro e w9 ⟨rfl, hI9, hC9⟩
  have hH9 := hI8.out.free hH8.out hgp hgb hI9.ar hC9
  have hplt := hI9.ne
  have hglt := hH9.lt
  replace hI9 := Lib.hid hI9
  replace hH9 := Lib.hid hH9
  clear hC9 hI8 hH8 hc5
  go_upto_region 10 with (fail)
  refine wp_gen (fun W => InvA w p b l4 W ∧ Blk W g1 34 (hEl (0, 1)) ∧ Blk W w9.heap.size 34 (hEl (0, 2))) ⟨hI9.out.kept (Keeps.alloc _ _), hH9.out.keeps (Keeps.alloc _ _), Blk.at rfl rfl⟩ ?_
  clear hI9 hplt hH9 hglt
  generalize w9.heap.size = g3 at *
  rintro w10 ⟨hI, hH, hG⟩
  have a0 := hH.cell 0 (by simp [hEl])
  have a1 := hH.cell 1 (by simp [hEl])
  simp only [hEl, List.getElem_cons_zero, List.getElem_cons_succ] at a0 a1
  have hc6 := hg.out w10 p b hI
  replace hI := Lib.hid hI
  replace hH := Lib.hid hH
  replace hG := Lib.hid hG
  replace hc6 := Lib.hid hc6
  clear hg
  go_wp2_with fail
  refine hc6.out.mono ?_
  rintro e w11 ⟨rfl, hI11, hK11⟩
  have hG11 := hG.out.keeps hK11
  have b0 := hG11.cell 0 (by simp [hEl])
  have b1 := hG11.cell 1 (by simp [hEl])
  simp only [hEl, List.getElem_cons_zero, List.getElem_cons_succ] at b0 b1
  have hKK := hI11.keeps
  replace hKK := Lib.hid hKK
  clear hI11 hG11 hK11 hc6 hI hH hG a0 a1
  go_wp2_with fail
  go_ret
  exact ⟨rfl, hKK.out⟩
end Go.Proofs.YtanidaepfepppaaDoor.ArI
