/- The walk of detentref10's Look, where a holdout falls. -/
import Derived.Test.YtpncnddlmlciaaaDoorRef10b
namespace Go.Proofs.YtpncnddlmlciaaaDoor
open Go.RowKit Go.Shelf

set_option maxRecDepth 100000 in
set_option maxHeartbeats 2000000 in
theorem r10Look_yes (b p : Int) (v u : Value) (m : Nat) (l : List (Int × Bool)) (k : Nat) (w : World) (hv : Bools w v m) (hu : Deeds w u l) (hg : Good l) (hl : l.length ≤ 100000) (hk : k < 64) (hb : m.testBit k = true) (he : endB (runD l) b k = true) :
    Calls Tryd.prog 22 #[.agg (scCells b p v).toArray, u, .int .i64 k] w fun e w' => ∃ v2, e = .returned (.tuple #[.agg (scCells b p v2).toArray, .bool true]) ∧ Bools w' v2 (withoutN m [(k : Int)]) ∧ Keeps w w' := by
  have hv1 := hv.one
  have hend := fun (W : World) (hk2 : Keeps w W) => r10Ended_any b p v u l k W hv1 (hu.keeps hk2) hg hl
  rw [he] at hend
  obtain ⟨up, uc, rfl, _⟩ := hu.get
  obtain ⟨vb, off, cap, rfl, h64, hcm, hvlt, hcell⟩ := hv.open
  have e64 : ((bitsL m).map Value.bool).length = 64 := by simp [bitsL]
  have hwo := bitsL_without m k
  replace e64 := Lib.hid e64
  replace hwo := Lib.hid hwo
  replace hend := Lib.hid hend
  replace hcell := Lib.hid hcell
  replace hv := Lib.hid hv
  clear hu hg hl he
  go_enter Tryd.func22, Tryd.ntmps22
  go_upto_region 1 with (fail)
  refine wp_gen (fun W => Blk W w.heap.size 50 (scCells b p (.slice (some ⟨vb, off, none⟩) 64 cap)) ∧ Blk W (w.heap.size + 1) 50 (scCells 0 0 (.slice none 0 0)) ∧ Keeps w W) ⟨(Blk.new _ _ _).alloc _, Blk.at (by simp) rfl, (Keeps.alloc _ _).trans (Keeps.alloc _ _)⟩ ?_
  rintro W ⟨hB, hB6, hK⟩
  have c0 := hB.cell 0 (by simp [scCells])
  have c1 := hB.cell 1 (by simp [scCells])
  have c2 := hB.cell 2 (by simp [scCells])
  simp only [scCells, List.getElem_cons_succ, List.getElem_cons_zero] at c0 c1 c2
  have hend2 := hend.out W hK
  have ck := (hK.cell (p := ⟨vb, off + k, none⟩) hvlt).trans (hcell.out k hk)
  rw [hb] at ck
  have h1 : ¬ (k : Int) < 0 := by omega
  have h2 : ¬ 63 < (k : Int) := by omega
  replace hB := Lib.hid hB
  replace hB6 := Lib.hid hB6
  replace hK := Lib.hid hK
  replace hend2 := Lib.hid hend2
  clear hend hcell
  go_wp2_with fail
  refine hend2.out.mono ?_
  rintro e W2 ⟨rfl, hK2⟩
  have hB2 := hB.out.keeps hK2
  have hB62 := hB6.out.keeps hK2
  have hKw2 := Keeps.trans hK.out hK2
  have hv2 := hv.out.keeps hKw2
  clear hB hB6 hK hK2 hend2 ck c0 c1 c2
  have c2 := hB2.cell 2 (by simp [scCells])
  simp only [scCells, List.getElem_cons_succ, List.getElem_cons_zero] at c2
  have hs1 := hB2.lt
  have hs2 := hB62.lt
  have hown := ownsRow_empty W2 4 W2.heap.size (Nat.le_refl _)
  have hsrc : Slc (W2.alloc (.cells #[] 4)) (.slice (some ⟨vb, off, none⟩) 64 cap) ((bitsL m).map .bool) := Slc.below hv2 (Keeps.alloc W2 _)
  have hB0 := Keeps.alloc W2 (.cells #[] 4)
  replace hB2 := Lib.hid hB2
  replace hB62 := Lib.hid hB62
  replace hKw2 := Lib.hid hKw2
  clear hv2
  go_wp2_with (at_builtin; refine appS rfl _ _ 48 4 (.bool false) 1 rfl Tryd.underlying48 infoBool rfl W2.heap.size _ _ _ rfl hown _ _ rfl hsrc ?_ ?_ ?_ ?_ ?_)
  · intro y hy; simp [List.mem_map] at hy; rcases hy with ⟨_, rfl⟩ | ⟨_, rfl⟩ <;> rfl
  · rw [e64.out]; decide
  · rw [e64.out]; decide
  · exact hB0.size
  · intro v' w1 hown' _ hbel
    have hown' : w1.ownsRow W2.heap.size 4 1 v' 64 ((bitsL m).map .bool) := by simpa [bitsL_len] using hown'
    obtain ⟨g, cap1, cs, rfl, hg, hblk, hn1, hm1, hlen, ht⟩ := row_blk hown'
    have hK1 : Keeps W2 w1 := Below.trans hB0 hbel
    have hB3 := hB2.out.keeps hK1
    have hB63 := hB62.out.keeps hK1
    have hKw3 := Keeps.trans hKw2.out hK1
    clear hown hsrc hown' hbel hB0 hB2 hB62 hKw2 hK1 c2
    have c0 := hB3.cell 0 (by simp [scCells])
    have c1 := hB3.cell 1 (by simp [scCells])
    simp only [scCells, List.getElem_cons_succ, List.getElem_cons_zero] at c0 c1
    have hcl : 64 ≤ cs.length := by
      have := congrArg List.length ht
      simp [bitsL] at this; omega
    have hc := hblk.cellD k (by omega)
    have hf := hblk.frozen k
    have hset := hblk.set k (.bool false)
    have hbo : Bools (w1.setCell ⟨g, k, none⟩ (.bool false)) (.slice (some ⟨g, 0, none⟩) 64 cap1) (withoutN m [(k : Int)]) := Bools.of_blk hset hn1 hm1 (by
      rw [List.take_set, ht, ← hwo.out, List.map_set])
    have f3 := hB3.other (b' := g) (by omega) k (.bool false)
    have f63 := hB63.other (b' := g) (by omega) k (.bool false)
    have fK : Keeps w (w1.setCell ⟨g, k, none⟩ (.bool false)) := Chg.keeps (S := fun j => j = g) (Chg.setCell _ _ rfl) hKw3 (fun j hj => by omega)
    replace hbo := Lib.hid hbo
    replace f3 := Lib.hid f3
    replace f63 := Lib.hid f63
    replace fK := Lib.hid fK
    clear hset hblk ht hB3 hB63 hKw3
    go_upto_region 5 with (fail)
    refine wp_gen (fun W => Bools W (.slice (some ⟨g, 0, none⟩) 64 cap1) (withoutN m [(k : Int)]) ∧ Blk W w.heap.size 50 (scCells b p (.slice (some ⟨vb, off, none⟩) 64 cap)) ∧ Blk W (w.heap.size + 1) 50 (scCells 0 0 (.slice none 0 0)) ∧ Keeps w W) ⟨hbo.out, f3.out, f63.out, fK.out⟩ ?_
    clear hbo f3 f63 fK c0 c1 hc hf
    rintro W5 ⟨hbo, hB, hB6, hK⟩
    have c0 := hB.cell 0 (by simp [scCells])
    have c1 := hB.cell 1 (by simp [scCells])
    simp only [scCells, List.getElem_cons_succ, List.getElem_cons_zero] at c0 c1
    have hC : Chg (fun j => j = w.heap.size + 1) W5 (W5.setRow (w.heap.size + 1) (scCells b p (.slice (some ⟨g, 0, none⟩) 64 cap1)).toArray) := Chg.setRow _ rfl
    have fin : Blk (W5.setRow (w.heap.size + 1) (scCells b p (.slice (some ⟨g, 0, none⟩) 64 cap1)).toArray) (w.heap.size + 1) 50 (scCells b p (.slice (some ⟨g, 0, none⟩) 64 cap1)) ∧ Keeps w (W5.setRow (w.heap.size + 1) (scCells b p (.slice (some ⟨g, 0, none⟩) 64 cap1)).toArray) :=
      ⟨hB6.setRow _, Chg.keeps hC hK (fun j hj => by omega)⟩
    have fbo : Bools (W5.setRow (w.heap.size + 1) (scCells b p (.slice (some ⟨g, 0, none⟩) 64 cap1)).toArray) (.slice (some ⟨g, 0, none⟩) 64 cap1) (withoutN m [(k : Int)]) := Slc.chgN hbo hC (fun c hc _ => by
      simp only [Value.ownBlock, Option.some.injEq] at hc; omega)
    replace fin := Lib.hid fin
    replace fbo := Lib.hid fbo
    replace hB6 := Lib.hid hB6
    clear hC hbo hB hK
    go_wp2_with (refine storeS hB6.out rfl rfl _ _ rfl rfl rfl rfl ?_)
    refine bodyPost_ret (results_row_slot rfl _ fin.out.1 rfl _ Tryd.underlying50 rfl 3 sizeSc rfl) rfl ⟨_, rfl, fbo.out, fin.out.2⟩
end Go.Proofs.YtpncnddlmlciaaaDoor
