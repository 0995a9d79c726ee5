/- New of detentref10. -/
import Derived.Test.YtpncnddlmlciaaaDoorRef10e
import Derived.Deep.RegionHeld3
import Derived.Deep.RegionLaw
import Derived.Deep.AppendLies
namespace Go.Proofs.YtpncnddlmlciaaaDoor
open Go.RowKit Go.Shelf

def newBits (l : List (Int × Bool)) (k : Nat) : List Value := (List.range k).map fun (r : Nat) => Value.bool (decide (0 < dTo l (r : Int)))
theorem newBits_succ (l : List (Int × Bool)) (k : Nat) : newBits l (k + 1) = newBits l k ++ [Value.bool (decide (0 < dTo l (k : Int)))] := by
  unfold newBits; rw [List.range_succ, List.map_append]; rfl
theorem newBits_len (l : List (Int × Bool)) (k : Nat) : (newBits l k).length = k := by simp [newBits]
theorem newBits_all {l : List (Int × Bool)} (hg : Good l) : newBits l 64 = (bitsL (runD l).m).map Value.bool := by
  unfold newBits bitsL
  rw [List.map_map]
  apply List.map_congr_left
  intro j hj
  have hj : j < 64 := List.mem_range.1 hj
  show Value.bool _ = Value.bool _
  congr 1
  have hb := (runD_ok l).bits j hj
  unfold hasN at hb
  rw [decide_eq_true (show (0 : Int) ≤ (j : Int) ∧ (j : Int) < 64 by omega), Bool.true_and, Int.toNat_natCast] at hb
  show _ = (runD l).m.testBit j
  rw [hb, dTo_all hg]
  unfold SSt.depI
  rw [if_pos (by omega), Int.toNat_natCast, decide_eq_decide]
  omega
theorem slc_one_at (W : World) (t : TypeId) (y : Value) (b : Nat) (hb : b = W.heap.size) : Slc (W.alloc (.cells #[y] t)) (.slice (some ⟨b, 0, none⟩) 1 1) [y] := by
  subst hb
  have := (Blk.new W t [y]).slc 1 1 (by simp) (Nat.le_refl _) (by decide)
  exact this
theorem row_chg {S : Nat → Prop} {sz base n : Nat} {e : TypeId} {w w' : World} {v : Value} {xs : List Value} (h : w.ownsRow base e sz v n xs) (hm : Chg S w w') (hsep : ∀ b, base ≤ b → ¬ S b) : w'.ownsRow base e sz v n xs := by
  refine ⟨h.1, ?_⟩
  rcases h.2 with h0 | ⟨g, cap, cur, hv, hb, hg, hr⟩
  · exact .inl h0
  · exact .inr ⟨g, cap, cur, hv, hb, (hm.block g ((Array.getElem?_eq_some_iff.1 hg).1) (hsep g hb)).trans hg, hr⟩
/-- What holds in New's loop: x's block, its list in a row of the call's own. -/
structure NewI (w : World) (x b : Nat) (l : List (Int × Bool)) (k : Nat) (v : Value) (W : World) : Prop where
  blk : Blk W x 50 (scCells b 0 v)
  row : W.ownsRow (x + 1) 4 1 v k (newBits l k)
  keeps : Keeps w W

set_option maxRecDepth 100000 in
set_option maxHeartbeats 2000000 in
theorem r10New_any (u : Value) (l : List (Int × Bool)) (w : World) (hu : Deeds w u l) (hg : Good l) (hl : l.length ≤ 100000) :
    Calls Tryd.prog 17 #[u] w fun e w' => ∃ v2, e = .returned (.agg (scCells (runD l).st 0 v2).toArray) ∧ Bools w' v2 (runD l).m ∧ Keeps w w' := by
  obtain ⟨up, uc, rfl, _⟩ := hu.get
  have hst := fun (W : World) (hk : Keeps w W) => rStamps_any _ l 0 W (hu.keeps hk) hg hl
  have hde := fun (r : Int) (W : World) (hk : Keeps w W) => rDepth_any _ l r W (hu.keeps hk) hl
  have hall := newBits_all hg
  have hs0 := fun k => newBits_succ l k
  generalize (runD l).st = b at *
  generalize (runD l).sinI 0 = s at *
  generalize (runD l).m = m at *
  replace hst := Lib.hid hst
  replace hde := Lib.hid hde
  replace hall := Lib.hid hall
  replace hs0 := Lib.hid hs0
  clear hu hg
  go_enter Tryd.func17, Tryd.ntmps17
  go_upto_region 1 with (fail)
  refine wp_gen (fun W => Blk W w.heap.size 50 (scCells 0 0 (.slice none 0 0)) ∧ W.heap.size = w.heap.size + 1 ∧ Keeps w W) ⟨Blk.at rfl rfl, by simp, Keeps.alloc _ _⟩ ?_
  rintro W ⟨hB, hsz, hK⟩
  have hst2 := hst.out W hK
  replace hB := Lib.hid hB
  replace hst2 := Lib.hid hst2
  replace hK := Lib.hid hK
  replace hsz := Lib.hid hsz
  clear hst
  go_wp2_with fail
  refine hst2.out.mono ?_
  rintro e W2 ⟨rfl, hK2⟩
  have hK3 := Keeps.trans hK.out hK2
  have hB2 := hB.out.keeps hK2
  have hs2 : w.heap.size + 1 ≤ W2.heap.size := by have := hK2.size; have := hsz.out; omega
  replace hB2 := Lib.hid hB2
  replace hK3 := Lib.hid hK3
  clear hK2 hst2 hK hB hsz
  go_upto_region 3 with (fail)
  refine wp_gen (fun W => NewI w W2.heap.size b l 0 (.slice none 0 0) W ∧ Blk W w.heap.size 50 (scCells 0 0 (.slice none 0 0))) ⟨⟨Blk.at rfl rfl, World.ownsRow_nil _ _ _ _, Keeps.trans hK3.out (Keeps.alloc _ _)⟩, hB2.out.keeps (Keeps.alloc _ _)⟩ ?_
  rintro W ⟨hI, hB⟩
  clear hK3 hB2
  generalize hx : W2.heap.size = x at *
  clear hx
  replace hI := Lib.hid hI
  replace hB := Lib.hid hB
  go_wp2_with fail
  go_loopw [6] (fun i wr => ∃ (k : Nat) (v : Value), k ≤ 64 ∧ i = .int .i64 k ∧ NewI w x b l k v wr ∧ Blk wr w.heap.size 50 (scCells 0 0 (.slice none 0 0))) (fun i _ => 64 - (intOf i).toNat)
  case atStart => exact ⟨0, _, by omega, rfl, hI.out, hB.out⟩
  case round =>
    clear hI hB
    obtain ⟨k, v, hk, rfl, hI, hB⟩ := hrel
    by_cases hlt : k < 64
    · have hd := hde.out (k : Int) wr hI.keeps
      have hdw := hde.out (k : Int) wr.drew (Keeps.trans hI.keeps (Keeps.drew _))
      have hrow := hI.row
      have hs := hs0.out k
      have x2 := hI.blk.cell 2 (by simp [scCells])
      have f2 := hI.blk.frozen 2
      simp only [scCells, List.getElem_cons_succ, List.getElem_cons_zero] at x2
      have hxl := hI.blk.lt
      have hnl := newBits_len l k
      generalize newBits l k = nb at *
      generalize dTo l (k : Int) = d at *
      replace hs := Lib.hid hs
      replace hnl := Lib.hid hnl
      replace hB := Lib.hid hB
      replace hI := Lib.hid hI
      replace hd := Lib.hid hd
      replace hdw := Lib.hid hdw
      have hyy : ∀ y ∈ [Value.bool (decide (0 < d))], y.oneCell' = true := by intro y hy; simp at hy; subst hy; rfl
      have hz1 : k + [Value.bool (decide (0 < d))].length ≤ maxLen := by simp only [List.length_singleton]; unfold maxLen; omega
      have hz2 : (k + [Value.bool (decide (0 < d))].length) * 1 ≤ 140737488355328 := by simp only [List.length_singleton]; omega
      replace hyy := Lib.hid hyy
      replace hz1 := Lib.hid hz1
      replace hz2 := Lib.hid hz2
      go_wp2_with fail
      go_region_law (first
          | (refine appStep (by rfl) _ _ 48 4 (.bool false) 1 (by rfl) Tryd.underlying48 infoBool rfl (x + 1) _ _ _ (by rfl) (hrow.drew.alloc _) (some _) _ _ _ (by rfl) (by simp) (slc_one_at _ _ _ _ rfl) hyy.out hz1.out hz2.out (by simp; omega) ?_; intro v' w1 hown' hgrow hbel; obtain ⟨g, gcap, rfl⟩ := ownsRow_succ hown'; have hb3 := ((hI.out.blk.keeps (Keeps.drew _)).alloc (.cells #[.bool (decide (0 < d))] 4)).below hbel (Nat.lt_succ_self x); have hb4 := ((hB.out.keeps (Keeps.drew _)).alloc (.cells #[.bool (decide (0 < d))] 4)).below hbel (by omega); have d2 := hb3.cell 2 (by simp [scCells]); have f2 := hb3.frozen 2; simp only [scCells, List.getElem_cons_succ, List.getElem_cons_zero] at d2; replace hb3 := Lib.hid hb3; replace hb4 := Lib.hid hb4; replace hown' := Lib.hid hown'; replace hbel := Lib.hid hbel; clear hgrow)
          | (go_simp; go_at_call 39; with_reducible refine hdw.out.mono ?_; rintro e W3 ⟨rfl, rfl⟩))
      all_goals
        have hK1 : Keeps w w1 := Below.trans (Keeps.trans hI.out.keeps (Keeps.trans (Keeps.alloc wr _) (Keeps.drew _))) (Below.mono hbel.out (by omega))
        have hC : Chg (· = x) w1 (w1.setCell ⟨x, 2, none⟩ (.slice (some ⟨g, 0, none⟩) (k + 1) gcap)) := Chg.setCell _ _ rfl
        have hfin : NewI w x b l (k + 1) (.slice (some ⟨g, 0, none⟩) (k + 1) gcap) (w1.setCell ⟨x, 2, none⟩ (.slice (some ⟨g, 0, none⟩) (k + 1) gcap)) := ⟨hb3.out.set 2 _, by rw [hs.out]; exact row_chg (by simpa using hown'.out) hC (fun c hc => by omega), Chg.keeps hC hK1 (fun k hk => by omega)⟩
        have hbf := hb4.out.chg hC (by omega)
        replace hfin := Lib.hid hfin
        replace hbf := Lib.hid hbf
        clear hK1 hC d2 f2 hown' hbel hb3 hb4
        go_wp2_with fail
        go_roundw
        case rel => exact ⟨k + 1, _, by omega, by go_num, hfin.out, hbf.out⟩
        case measure => (simp [intOf]; try omega)
    · obtain rfl : k = 64 := by omega
      have hrow := hI.row
      rw [hall.out] at hrow
      obtain ⟨g, cap1, cs, rfl, hg, hblk, hn1, hm1, hlen, ht⟩ := row_blk hrow
      have hbo : Bools wr (.slice (some ⟨g, 0, none⟩) 64 cap1) m := Bools.of_blk hblk hn1 hm1 ht
      have hxl := hI.blk.lt
      have hC : Chg (fun j => j = w.heap.size) wr (wr.setRow w.heap.size (scCells b 0 (.slice (some ⟨g, 0, none⟩) 64 cap1)).toArray) := Chg.setRow _ rfl
      have fin := hB.setRow (scCells b 0 (.slice (some ⟨g, 0, none⟩) 64 cap1))
      have fK := Chg.keeps hC hI.keeps (fun j hj => by omega)
      have fbo := Slc.chg hbo hC (hbo.sep hB (by simp [scCells]))
      have hb := hI.blk
      replace fin := Lib.hid fin
      replace fK := Lib.hid fK
      replace fbo := Lib.hid fbo
      replace hB := Lib.hid hB
      replace hb := Lib.hid hb
      clear hrow hblk ht hbo hC hI
      go_wp2_with (first | (refine loadS hb.out rfl _ rfl rfl ?_) | (refine storeS hB.out rfl rfl _ _ rfl rfl rfl rfl ?_))
      exact bodyPost_ret (results_row rfl _ fin.out rfl _ Tryd.underlying50 rfl 3 sizeSc rfl) rfl ⟨_, rfl, fbo.out, fK.out⟩
end Go.Proofs.YtpncnddlmlciaaaDoor
