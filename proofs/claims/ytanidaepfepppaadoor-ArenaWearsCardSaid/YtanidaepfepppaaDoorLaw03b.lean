/- A slot wears out: the walk. -/
import Derived.Test.YtanidaepfepppaaDoorAr7I
namespace Go.Proofs.YtanidaepfepppaaDoor.ArI
open Go.RowKit Go.Proofs.YtanidaepfepppaaDoor

def wl (g : Nat) : List (Slot El) := [⟨g, false, 0⟩]
def wu (g : Nat) (x : El) : List (Slot El) := [⟨g, true, x⟩]
theorem open_wl (g : Nat) (h : g ≤ 255) : openAt (wl g) 0 = some 0 := by simp [wl, openAt, Slot.open, h]
theorem put_wl (g : Nat) (h : g ≤ 255) (x : El) : putL (wl g) x = wu g x := by unfold putL; rw [open_wl g h]; rfl
theorem free_wu (g : Nat) (x : El) : freeAll (wu g x) [(0, (g : Int))] = (wl (g + 1), 0) := by
  simp [freeAll, findE, wu, freeAt, wl, zEl]
theorem free_wl (g : Nat) : freeAll (wl (g + 1)) [(0, (g : Int))] = (wl (g + 1), 7) := by
  simp [freeAll, findE, wl]
set_option maxRecDepth 100000 in
set_option maxHeartbeats 4000000 in
theorem lawWears_any (x : Int) (w : World) (hT : TabAt w) : Calls Tryd.prog 4 #[.int .i64 x] w fun e w' => e = .returned (.bool true) ∧ Keeps w w' := by
  have hnew := new_yes 1 w (by decide) (by decide)
  have hput := fun (g : Nat) (hg : g ≤ 255) (W : World) (p b : Nat) (h : InvA w p b (wl g) W) => (put_ok h.ar (hT.keeps h.keeps) 0 (open_wl g hg) x).mono fun e W' (hh : _ ∧ _ ∧ _) => (⟨hh.1, by rw [← put_wl g hg x]; exact h.chg hh.2.1 hh.2.2⟩ : e = .returned (.tuple #[.agg #[.int .i64 0, .int .i64 (g : Int)], .int .i64 0]) ∧ InvA w p b (wu g x) W')
  have hroom := fun (g : Nat) (W : World) (p b : Nat) (h : InvA w p b (wu g x) W) => (room_yes h.ar).mono fun e W' (hh : _ ∧ _) => (⟨hh.1, hh.2⟩ : e = .returned (.int .i64 0) ∧ W = W')
  have hfr := fun (g : Nat) (W : World) (p b c : Nat) (h : InvA w p b (wu g x) W) (hB : Blk W c 34 (hEl (0, (g : Int)))) (hcp : c ≠ p) (hcb : c ≠ b) => (free_any h.ar [(0, (g : Int))] _ (slH hB) (fun c' hc' _ => by simp [Value.ownBlock] at hc'; subst hc'; exact ⟨hcp, hcb⟩)).mono fun e W' (hh : _ ∧ _ ∧ _) =>
    (⟨by rw [hh.1, free_wu], by have := hh.2.1; rw [free_wu] at this; exact h.chg this hh.2.2, hh.2.2⟩ : e = .returned (.int .i64 0) ∧ InvA w p b (wl (g + 1)) W' ∧ Chg (fun k => k = p ∨ k = b) W W')
  have hfs := fun (g : Nat) (W : World) (p b c : Nat) (h : InvA w p b (wl (g + 1)) W) (hB : Blk W c 34 (hEl (0, (g : Int)))) (hcp : c ≠ p) (hcb : c ≠ b) => (free_any h.ar [(0, (g : Int))] _ (slH hB) (fun c' hc' _ => by simp [Value.ownBlock] at hc'; subst hc'; exact ⟨hcp, hcb⟩)).mono fun e W' (hh : _ ∧ _ ∧ _) =>
    (⟨by rw [hh.1, free_wl], by have := hh.2.1; rw [free_wl] at this; exact h.chg this hh.2.2, hh.2.2⟩ : e = .returned (.int .i64 7) ∧ InvA w p b (wl (g + 1)) W' ∧ Chg (fun k => k = p ∨ k = b) W W')
  have hfull := fun (W : World) (p b : Nat) (h : InvA w p b (wl 256) W) => (put_full h.ar (hT.keeps h.keeps) rfl x).mono fun e W' (hh : _ ∧ _) => (⟨hh.1, h.kept hh.2⟩ : e = .returned (.tuple #[.agg #[.int .i64 0, .int .i64 0], .int .i64 3]) ∧ InvA w p b (wl 256) W')
  have hkn := fun (W : World) (h : Keeps w W) => known_any W (hT.keeps h)
  have hln := fun (W : World) (p b : Nat) (h : InvA w p b (wl 256) W) => (len_yes h.ar).mono fun e W' (hh : _ ∧ _) => (⟨hh.1, hh.2⟩ : e = .returned (.int .i64 0) ∧ W = W')
  have hrm := fun (W : World) (p b : Nat) (h : InvA w p b (wl 256) W) => (room_yes h.ar).mono fun e W' (hh : _ ∧ _) => (⟨hh.1, hh.2⟩ : e = .returned (.int .i64 0) ∧ W = W')
  replace hput := Lib.hid hput
  replace hroom := Lib.hid hroom
  replace hfr := Lib.hid hfr
  replace hfs := Lib.hid hfs
  replace hfull := Lib.hid hfull
  replace hkn := Lib.hid hkn
  replace hln := Lib.hid hln
  replace hrm := Lib.hid hrm
  clear hT
  go_enter Tryd.func4, Tryd.ntmps4
  go_wp2_with fail
  refine hnew.mono ?_
  rintro e w1 ⟨p, b, rfl, hA, hp, hb, hK⟩
  have hI0 : InvA w p b (wl 1) w1 := ⟨hA, hp, hb, hK⟩
  replace hI0 := Lib.hid hI0
  clear hA hp hb hK hnew
  go_wp2_with fail
  go_loopw [5] (fun i wr => ∃ g : Nat, 1 ≤ g ∧ g ≤ 256 ∧ i = .int .i64 g ∧ InvA w p b (wl g) wr) (fun i _ => 256 - (intOf i).toNat)
  case atStart => exact ⟨1, by decide, by decide, rfl, hI0.out⟩
  case round =>
    clear hI0
    obtain ⟨g, hg1, hg2, rfl, hI⟩ := hrel
    by_cases hlt : g ≤ 255
    · have hltI : (g : Int) ≤ 255 := by omega
      have hc1 := hput.out g hlt wr p b hI
      replace hI := Lib.hid hI
      replace hc1 := Lib.hid hc1
      go_wp2_with fail
      refine hc1.out.mono ?_
      rintro e w2 ⟨rfl, hI2⟩
      have hne := hI2.ne
      replace hI2 := Lib.hid hI2
      clear hc1 hI
      go_upto_region 8 with (fail)
      have hgp : w2.heap.size ≠ p := by omega
      have hgb : w2.heap.size ≠ b := by omega
      refine wp_gen (fun W => InvA w p b (wu g x) W ∧ Blk W w2.heap.size 34 (hEl (0, (g : Int)))) ⟨hI2.out.kept (Keeps.alloc _ _), Blk.at rfl rfl⟩ ?_
      clear hI2 hne
      generalize w2.heap.size = h1 at *
      rintro w3 ⟨hI3, hH⟩
      have a0 := hH.cell 0 (by simp [hEl])
      have a1 := hH.cell 1 (by simp [hEl])
      simp only [hEl, List.getElem_cons_zero, List.getElem_cons_succ] at a0 a1
      have hc2 := hroom.out g w3 p b hI3
      have hne := hI3.ne
      have hlt3 := hH.lt
      replace hI3 := Lib.hid hI3
      replace hH := Lib.hid hH
      replace hc2 := Lib.hid hc2
      go_wp2_with fail
      refine hc2.out.mono ?_
      rintro e w4 ⟨rfl, rfl⟩
      clear hc2
      go_wp2_with fail
      refine (hfr.out g _ p b _ (hI3.out.kept (Keeps.alloc _ _)) (Blk.at rfl rfl) (by omega) (by omega)).mono ?_
      rintro e w5 ⟨rfl, hI5, hC5⟩
      have hH5 := (hI3.out.kept (Keeps.alloc _ _)).free (hH.out.keeps (Keeps.alloc _ _)) hgp hgb hI5.ar hC5
      have a0 := hH5.cell 0 (by simp [hEl])
      have a1 := hH5.cell 1 (by simp [hEl])
      simp only [hEl, List.getElem_cons_zero, List.getElem_cons_succ] at a0 a1
      have hne := hI5.ne
      replace hI5 := Lib.hid hI5
      clear hC5 hH5 hI3 hH
      go_wp2_with fail
      refine (hfs.out g _ p b _ (hI5.out.kept (Keeps.alloc _ _)) (Blk.at rfl rfl) (by omega) (by omega)).mono ?_
      rintro e w6 ⟨rfl, hI6, _⟩
      replace hI6 := Lib.hid hI6
      clear hI5 hne a0 a1
      go_wp2_with fail
      go_roundw
      case rel => exact ⟨g + 1, by omega, by omega, by go_num, hI6.out⟩
      case measure => (simp [intOf]; try omega)
    · obtain rfl : g = 256 := by omega
      have hc1 := hfull.out wr p b hI
      replace hI := Lib.hid hI
      replace hc1 := Lib.hid hc1
      clear hlt hg1 hg2
      go_wp2_with fail
      refine hc1.out.mono ?_
      rintro e w2 ⟨rfl, hI2⟩
      replace hI2 := Lib.hid hI2
      clear hc1 hI
      go_upto_region 11 with (fail)
      refine wp_gen (fun W => InvA w p b (wl 256) W) (hI2.out.kept (Keeps.alloc _ _)) ?_
      clear hI2
      rintro w3 hI3
      have hc2 := hkn.out w3 hI3.keeps
      replace hI3 := Lib.hid hI3
      replace hc2 := Lib.hid hc2
      go_wp2_with fail
      refine hc2.out.mono ?_
      rintro e w4 ⟨rfl, hK4⟩
      have hI4 := hI3.out.kept hK4
      have hc3 := hln.out w4 p b hI4
      have hc4 := hrm.out w4 p b hI4
      replace hI4 := Lib.hid hI4
      replace hc3 := Lib.hid hc3
      replace hc4 := Lib.hid hc4
      clear hI3 hK4 hc2
      go_wp2_with fail
      refine hc3.out.mono ?_
      rintro e w5 ⟨rfl, rfl⟩
      go_wp2_with fail
      refine hc4.out.mono ?_
      rintro e w5 ⟨rfl, rfl⟩
      go_wp2_with fail
      go_ret
      exact ⟨rfl, hI4.out.keeps⟩
end Go.Proofs.YtanidaepfepppaaDoor.ArI
