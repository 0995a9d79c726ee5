/- Arenas of things: Put, release. -/
import Derived.Test.YtanidaepfepppaaDoorAr2T
import Derived.Deep.CutBlock
namespace Go.Proofs.YtanidaepfepppaaDoor.ArT
open Go.RowKit Go.Proofs.YtanidaepfepppaaDoor

theorem ints_cell {w : World} {g : Nat} {n : Int} (h : w.cell? ⟨g, 0, none⟩ = some (.int .i64 n)) : Ints w (.slice (some ⟨g, 0, none⟩) 1 1) [n] := by
  refine ⟨_, 1, rfl, Nat.le_refl _, by decide, fun h => (by cases h), fun k hk => ⟨g, 0, rfl, ?_⟩⟩
  obtain rfl : k = 0 := by simpa using hk
  rw [Nat.add_zero, h]; rfl
/-- One slot is another. -/
theorem ArenaAt.setAt {w w' : World} {p b : Nat} {l : List (Slot El)} (h : ArenaAt w p b l) (i : Nat) (_hi : i < l.length) (s : Slot El) (h1 : 1 ≤ s.gen ∧ s.gen ≤ 256) (h2 : s.used = true → s.gen ≤ 255)
    (hP : Blk w' p 73 [.slice (some ⟨b, 0, none⟩) l.length l.length, .int .u64 (usedM (l.set i s) : Int), .int .u64 (freeM (l.set i s) : Int)]) (hB : Blk w' b 75 ((arEls l).set i (slotEl i s)).flatten) : ArenaAt w' p b (l.set i s) :=
  ⟨by rw [List.length_set]; exact hP, by rw [arEls_set]; exact hB, h.ne, by rw [List.length_set]; exact h.lo, by rw [List.length_set]; exact h.hi, h.ok.set i s h1 h2⟩

theorem sizeH : (Tryd.prog.info? 34).map (·.size) = some 2 := by kernel_rfl
def hEl (h : Int × Int) : List Value := [.int .i64 h.1, .int .i64 h.2]
set_option maxRecDepth 100000 in
set_option maxRecDepth 100000 in
set_option maxHeartbeats 1000000 in
theorem put_full {w : World} {p b : Nat} {l : List (Slot El)} (h : ArenaAt w p b l) (hT : TabAt w) (hn : openAt l 0 = none) (x : El) :
    Calls Tryd.prog 9 #[.pointer (some ⟨p, 0, none⟩), .agg #[.int .i64 x.1, .string x.2]] w fun e w' => e = .returned (.tuple #[.agg (hEl (0, 0)).toArray, .int .i64 3]) ∧ Keeps w w' := by
  have hn0 : ∀ j, j < 64 → (freeM l).testBit j = false := fun j _ => by
    unfold freeM
    rw [testBit_wordB]
    by_cases hj : j < l.length
    · simp only [List.getD, List.getElem?_map, List.getElem?_eq_getElem hj, Option.map_some, Option.getD_some]
      exact openAt_none hn _ (List.getElem_mem hj)
    · simp [List.getD, hj]
  obtain ⟨e1, e2⟩ := next0_no _ hn0
  have hnx := fun (W : World) (hk : Keeps w W) => next_any (freeM l) 0 W h.freeLt (hT.keeps hk)
  rw [e1, e2] at hnx
  have hlt := h.hdr.lt
  have hc := fun (W : World) (hk : Keeps w W) => (h.keeps hk).c2
  generalize freeM l = F at *
  replace hnx := Lib.hid hnx
  replace hc := Lib.hid hc
  clear h hn0 e1 e2
  obtain ⟨R, eR⟩ : ∃ R, R = w.heap.size + 1 := ⟨_, rfl⟩
  have hR0 : Blk ((w.alloc (.cells #[.int .i64 x.1, .string x.2] 29)).alloc (.cells #[.int .i64 0, .int .i64 0] 34)) R 34 (hEl (0, 0)) := Blk.at (by rw [World.size_alloc, eR]) rfl
  have hRn : w.heap.size ≤ R := by omega
  replace hR0 := Lib.hid hR0
  replace eR := Lib.hid eR
  replace hRn := Lib.hid hRn
  go_enter Tryd.func9, Tryd.ntmps9
  go_upto_region 1 with (fail)
  rw [← eR.out]
  refine wp_gen (fun W => Blk W R 34 (hEl (0, 0)) ∧ Keeps w W) ⟨hR0.out, Keeps.trans (Keeps.alloc _ _) (Keeps.alloc _ _)⟩ ?_
  clear hR0 eR
  rintro W ⟨hR, hK⟩
  have c2 := hc.out W hK
  have hnx2 := hnx.out W hK
  replace hnx2 := Lib.hid hnx2
  replace hR := Lib.hid hR
  replace hK := Lib.hid hK
  clear hnx hc
  go_wp2_with fail
  refine hnx2.out.mono ?_
  rintro e W2 ⟨rfl, hK2⟩
  have hR2 := hR.out.keeps hK2
  have r0 := hR2.cell 0 (by simp [hEl])
  have r1 := hR2.cell 1 (by simp [hEl])
  have f0 := hR2.frozen 0
  have f1 := hR2.frozen 1
  simp only [hEl, List.getElem_cons_zero, List.getElem_cons_succ] at r0 r1
  replace hR2 := Lib.hid hR2
  have hK3 := Keeps.trans hK.out hK2
  replace hK3 := Lib.hid hK3
  clear hR hK hK2 hnx2 c2
  go_wp2_with fail
  have hK4 : Keeps w ((W2.setCell ⟨R, 0, none⟩ (.int .i64 0)).setCell ⟨R, 1, none⟩ (.int .i64 0)) := Chg.keeps (S := (· = R)) ((Chg.setCell (S := (· = R)) _ _ rfl).trans (Chg.setCell (S := (· = R)) _ _ rfl)) hK3.out (fun k hk e => by have := hRn.out; omega)
  exact bodyPost_ret (results_row_slot (cs := hEl (0, 0)) rfl _ ((hR2.out.set 0 _).set 1 _) rfl _ Tryd.underlying34 rfl 2 sizeH rfl) rfl ⟨rfl, hK4⟩
end Go.Proofs.YtanidaepfepppaaDoor.ArT
