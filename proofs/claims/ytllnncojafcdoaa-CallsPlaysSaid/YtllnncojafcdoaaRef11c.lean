/- The reference of calls: Close. -/
import Derived.Test.YtllnncojafcdoaaRef11b
namespace Go.Proofs.Ytllnncojafcdoaa
open Go.RowKit

theorem RowS.setCell {sz base : Nat} {e : TypeId} {w : World} {g n cap : Nat} {els : List (List Value)} (h : RowS sz base e w (.slice (some ⟨g, 0, none⟩) n cap) els) (i j : Nat) (hi : i < els.length) (hj : j < sz) (u : Value) :
    RowS sz base e (w.setCell ⟨g, i * sz + j, none⟩ u) (.slice (some ⟨g, 0, none⟩) n cap) (els.set i ((els.getD i []).set j u)) := by
  obtain ⟨⟨hl, h⟩, hs⟩ := h
  rcases h with ⟨h, _⟩ | ⟨g', cap', cur, h, hb, hg, hn, hm, hc, ht⟩
  · cases h
  · simp only [Value.slice.injEq, Option.some.injEq, Addr.mk.injEq] at h
    obtain ⟨⟨rfl, _⟩, rfl, rfl⟩ := h
    have hB : Blk w g e cur.toList := hg
    have hB2 := hB.set (i * sz + j) u
    refine ⟨⟨?_, .inr ⟨g, cap, (cur.toList.set (i * sz + j) u).toArray, by simp, hb, hB2, by simpa using hn, hm, by simp [hc], ?_⟩⟩, ?_⟩
    · rw [← flat_set hs i j u hi hj, List.length_set, hl]; simp
    · rw [List.length_set, List.take_set, ht, flat_set hs i j u hi hj]
    · intro el hel
      rcases List.mem_or_eq_of_mem_set hel with h' | rfl
      · exact hs el h'
      · rw [List.length_set, List.getD, List.getElem?_eq_getElem hi]; exact hs _ (List.getElem_mem hi)
theorem RowS.frozen {sz base : Nat} {e : TypeId} {w : World} {g n cap : Nat} {els : List (List Value)} (h : RowS sz base e w (.slice (some ⟨g, 0, none⟩) n cap) els) (k : Nat) : w.frozen? ⟨g, k, none⟩ = false := by
  rcases h.1.2 with ⟨h, _⟩ | ⟨g', cap', cur, h, hb, hg, _⟩
  · cases h
  · simp only [Value.slice.injEq, Option.some.injEq, Addr.mk.injEq] at h
    obtain ⟨⟨rfl, _⟩, rfl, rfl⟩ := h
    exact Blk.frozen (cs := cur.toList) hg k
theorem RowS.cells {sz base : Nat} {e : TypeId} {w : World} {g n cap : Nat} {els : List (List Value)} (h : RowS sz base e w (.slice (some ⟨g, 0, none⟩) n cap) els) (i j : Nat) (hi : i < els.length) (hj : j < sz) : w.cell? ⟨g, i * sz + j, none⟩ = some ((els.getD i []).getD j undef) := by
  obtain ⟨q, cp, hv, _, _, hc⟩ := SlcS.get h.slcs
  obtain ⟨b, off, hq, hc⟩ := hc i hi
  simp only [Value.slice.injEq] at hv
  obtain ⟨h1, _, _⟩ := hv
  rw [hq] at h1
  simp only [Option.some.injEq, Addr.mk.injEq] at h1
  obtain ⟨rfl, rfl, _⟩ := h1
  have := hc j hj
  rwa [Nat.zero_add] at this
theorem Box2.setOut {w W : World} {B R n : Nat} {last : Int} {v : Value} (h : Box2 w B R n last v W) (g k : Nat) (u : Value) (hB : B ≠ g) (hR : R ≠ g) (hg : w.heap.size ≤ g) : Box2 w B R n last v (W.setCell ⟨g, k, none⟩ u) :=
  ⟨h.b.other hB k u, h.r.other hR k u, Chg.keeps (S := fun x => x = g) (Chg.setCell k u rfl) h.k (fun x hx e => by omega), h.new⟩
def clo3 (g : Int) (x : C3) : C3 := if x.2.2 = 0 then (x.1, x.2.1, g) else x
def close3 (g : Int) (l : List C3) : List C3 := l.map (clo3 g)
def closeTo (g : Int) (l : List C3) (k : Nat) : List C3 := (l.take k).map (clo3 g) ++ l.drop k
theorem closeTo_len (g : Int) (l : List C3) (k : Nat) : (closeTo g l k).length = l.length := by
  unfold closeTo
  rw [List.length_append, List.length_map, List.length_take, List.length_drop]; omega
theorem closeTo_zero (g : Int) (l : List C3) : closeTo g l 0 = l := by simp [closeTo]
theorem closeTo_all (g : Int) (l : List C3) : closeTo g l l.length = close3 g l := by simp [closeTo, close3]
theorem closeTo_at (g : Int) (l : List C3) (k : Nat) (h : k < l.length) : (closeTo g l k)[k]? = some l[k] := by
  unfold closeTo
  rw [List.getElem?_append_right (by simp; omega)]
  simp [Nat.min_eq_left (Nat.le_of_lt h), h]
theorem closeTo_succ (g : Int) (l : List C3) (k : Nat) (h : k < l.length) : closeTo g l (k + 1) = (closeTo g l k).set k (clo3 g l[k]) := by
  unfold closeTo
  rw [List.take_succ_eq_append_getElem h, List.map_append, List.set_append_right _ _ (by simp; omega), List.append_assoc]
  congr 1
  rw [List.length_map, List.length_take, Nat.min_eq_left (Nat.le_of_lt h), Nat.sub_self, List.drop_eq_getElem_cons h]
  rfl
theorem closeTo_row (g : Int) (l : List C3) (k : Nat) (h : k < l.length) (h0 : l[k].2.2 = 0) :
    ((closeTo g l k).map rc).set k ((((closeTo g l k).map rc).getD k []).set 2 (.int .i64 g)) = (closeTo g l (k + 1)).map rc := by
  rw [closeTo_succ g l k h, List.map_set]
  congr 1
  rw [List.getD, List.getElem?_map, closeTo_at g l k h]
  simp [clo3, h0, rc]
theorem closeTo_cell (g : Int) (l : List C3) (k : Nat) (h : k < l.length) : (((closeTo g l k).map rc).getD k []).getD 2 undef = .int .i64 l[k].2.2 := by
  rw [show ((closeTo g l k).map rc).getD k [] = rc l[k] by rw [List.getD, List.getElem?_map, closeTo_at g l k h]; rfl]
  rfl
theorem closeTo_same (g : Int) (l : List C3) (k : Nat) (h : k < l.length) (h0 : l[k].2.2 ≠ 0) : closeTo g l (k + 1) = closeTo g l k := by
  rw [closeTo_succ g l k h]
  apply List.ext_getElem?
  intro i
  rw [List.getElem?_set]
  by_cases e : k = i
  · subst e
    rw [if_pos rfl, closeTo_len, if_pos h, closeTo_at g l k h]
    simp [clo3, h0]
  · rw [if_neg e]
set_option maxRecDepth 100000 in
set_option maxHeartbeats 1000000 in
theorem r11Close_no (n : Nat) (last : Int) (v : Value) (l : List C3) (g : Int) (w : World) (hv : Cs3 w v l) (h : g < 1 ∨ g < last) :
    Calls Try.prog 14 #[ls3 n last v, .int .i64 g] w fun e w' => e = .returned (.tuple #[ls3 n last v, .int .i64 0]) ∧ Keeps w w' := by
  obtain ⟨p, cap, rfl, hl, hc, _⟩ := hv.get
  have hcase : g < 1 ∨ (¬ g < 1 ∧ g < last) := by omega
  unfold ls3
  clear h hv
  go_enter Try.func14, Try.ntmps14
  go_upto_region 1 with (fail)
  obtain ⟨B, hB⟩ : ∃ B, B = w.heap.size := ⟨_, rfl⟩
  obtain ⟨R, hR⟩ : ∃ R, R = w.heap.size + 1 := ⟨_, rfl⟩
  refine wp_gen (fun W => Box2 w B R n last (.slice p l.length cap) W) (Box2.start hB hR) ?_
  rw [← hR, ← hB]
  clear hB hR
  rintro W hX
  have z1 := hX.b.cell 1 (by simp [lsC])
  simp only [lsC, List.getElem_cons_zero, List.getElem_cons_succ] at z1
  replace hX := Lib.hid hX
  rcases hcase with h1 | ⟨h1, h2⟩
  all_goals
    go_wp2_with (first | (refine loadL hX.out.b rfl _ rfl rfl ?_) | (refine storeL hX.out.r rfl rfl _ _ rfl rfl rfl rfl ?_))
    refine bodyPost_ret (results_row_slot rfl _ hX.out.fin.1 rfl _ Try.underlying41 rfl 3 size11 rfl) rfl ⟨rfl, hX.out.fin.2⟩
set_option maxRecDepth 100000 in
set_option maxHeartbeats 2000000 in
theorem r11Close_yes (n : Nat) (last : Int) (v : Value) (l : List C3) (g : Int) (w : World) (hv : Cs3 w v l) (h1 : 1 ≤ g) (h2 : last ≤ g) (hl1 : l.length ≤ 100000) :
    Calls Try.prog 14 #[ls3 n last v, .int .i64 g] w fun e w' => ∃ v', e = .returned (.tuple #[ls3 n g v', .int .i64 (open3 l : Int)]) ∧ Cs3 w' v' (close3 g l) ∧ FreshV w v' ∧ Keeps w w' := by
  obtain ⟨p, cap, rfl, hl, hc1, _⟩ := hv.get
  have hI1 : ¬ g < 1 := by omega
  have hI2 : ¬ g < last := by omega
  have hlI : (0 : Int) ≤ (l.length : Int) := by omega
  replace hv := Lib.hid hv
  unfold ls3
  obtain ⟨er, her⟩ : ∃ x, x = open3 l := ⟨_, rfl⟩
  rw [← her]
  replace her := Lib.hid her
  clear h1 h2
  go_enter Try.func14, Try.ntmps14
  go_upto_region 1 with (fail)
  obtain ⟨B, hB⟩ : ∃ B, B = w.heap.size := ⟨_, rfl⟩
  obtain ⟨R, hR⟩ : ∃ R, R = w.heap.size + 1 := ⟨_, rfl⟩
  refine wp_gen (fun W => Box2 w B R n last (.slice p l.length cap) W) (Box2.start hB hR) ?_
  rw [← hR, ← hB]
  clear hB hR
  rintro W hX
  have z1 := hX.b.cell 1 (by simp [lsC])
  have z2 := hX.b.cell 2 (by simp [lsC])
  simp only [lsC, List.getElem_cons_zero, List.getElem_cons_succ] at z1 z2
  have hBl := hX.b.lt
  have hRl := hX.r.lt
  have hwW : w.heap.size ≤ W.heap.size := hX.k.size
  have hB0 := Keeps.alloc W (.cells #[] 55)
  have hsrc := (hv.out.keeps hX.k).keeps hB0
  replace hX := Lib.hid hX
  replace hB0 := Lib.hid hB0
  replace hsrc := Lib.hid hsrc
  go_wp2_with (at_builtin; refine appN rfl _ _ 39 55 _ 3 24 rfl Try.underlying39 infoRC rfl (by decide) W.heap.size _ [] rfl (RowS.empty 3 _ _ W (Nat.le_refl _)) _ (l.map rc) rfl hsrc.out (rc_one l) ?c1 ?c2 ?c3 ?_)
  case c1 => unfold maxLen; omega
  case c2 => omega
  intro v1 W3 hrow _ hbel
  replace hrow : RowS 3 W.heap.size 55 W3 v1 ((closeTo g l 0).map rc) := by rw [closeTo_zero]; simpa using hrow
  have hK3 : Keeps W W3 := Below.trans hB0.out hbel
  have hX3 := hX.out.kept hK3
  obtain ⟨q1, cap1, rfl⟩ := hrow.any
  rw [show ((closeTo g l 0).map rc).length = l.length by rw [List.length_map, closeTo_len]] at *
  replace hrow := Lib.hid hrow
  replace hX3 := Lib.hid hX3
  clear hsrc hB0 hbel z1 z2 hX hK3
  go_wp2_with fail
  go_loopw [7, 8] (fun m i wr => ∃ k : Nat, k ≤ l.length ∧ i = .int .i64 (k : Int) ∧ (∃ N : Nat, m = .int .i64 (N : Int) ∧ N = open3 (l.take k)) ∧ RowS 3 W.heap.size 55 wr (.slice q1 l.length cap1) ((closeTo g l k).map rc) ∧ Box2 w B R n last (.slice p l.length cap) wr) (fun _ i _ => l.length - (intOf i).toNat)
  case atStart => exact ⟨0, Nat.zero_le _, rfl, ⟨0, rfl, rfl⟩, hrow.out, hX3.out⟩
  case round =>
    clear hrow hX3
    obtain ⟨k, hk, rfl, ⟨N, rfl, hN⟩, hrow, hX⟩ := hrel
    have hlen : ((closeTo g l k).map rc).length = l.length := by rw [List.length_map, closeTo_len]
    by_cases hlt : k < l.length
    · have hltI := Int.ofNat_lt.2 hlt
      obtain ⟨g1, cp, hv1, hg1⟩ := hrow.slice (by omega)
      rw [hlen] at hv1
      simp only [Value.slice.injEq] at hv1
      obtain ⟨rfl, _, rfl⟩ := hv1
      have y2 := hrow.cells k 2 (by omega) (by decide)
      rw [closeTo_cell g l k hlt] at y2
      have f2 := hrow.frozen (k * 3 + 2)
      have hs := open3_succ l k hlt
      have hcl := open3_le (l.take k)
      rw [List.length_take] at hcl
      rw [← hN] at hs hcl
      have hc2 : (N : Int) ≤ (k : Int) := by omega
      have hc0 : (0 : Int) ≤ (N : Int) := by omega
      clear hcl
      replace hN := Lib.hid hN
      replace hlen := Lib.hid hlen
      by_cases e : l[k].2.2 = 0
      · rw [if_pos e] at hs
        have hrow2 := hrow.setCell k 2 (by rw [hlen.out]; exact hlt) (by decide) (.int .i64 g)
        rw [closeTo_row g l k hlt e] at hrow2
        have hX2 := hX.setOut g1 (k * 3 + 2) (.int .i64 g) (by omega) (by omega) (by omega)
        rw [e] at y2
        replace e := Lib.hid e
        replace hs := Lib.hid hs
        replace hrow2 := Lib.hid hrow2
        replace hX2 := Lib.hid hX2
        clear hrow hX
        go_wp2_with fail
        go_roundw
        case rel => exact ⟨k + 1, by omega, by go_num, ⟨N + 1, by go_num, hs.out.symm⟩, hrow2.out, hX2.out⟩
        case measure => (simp [intOf]; try omega)
      · have e1 : (l[k].2.2 == 0) = false := by simpa using e
        rw [if_neg e] at hs
        have hrow2 := hrow
        rw [← closeTo_same g l k hlt e] at hrow2
        generalize l[k].2.2 = x at *
        replace e := Lib.hid e
        replace hs := Lib.hid hs
        replace hrow2 := Lib.hid hrow2
        replace hX := Lib.hid hX
        clear hrow
        go_wp2_with fail
        go_roundw
        case rel => exact ⟨k + 1, by omega, by go_num, ⟨N, rfl, hs.out.symm⟩, hrow2.out, hX.out⟩
        case measure => (simp [intOf]; try omega)
    · obtain rfl : k = l.length := by omega
      rw [List.take_length, ← her.out] at hN
      rw [closeTo_all] at hrow
      have hfin := hX.fin (n2 := n) (last2 := g) (u := .slice q1 l.length cap1)
      have hfr := hrow.fresh hwW
      have hrf : Cs3 (wr.setRow R (lsC n g (.slice q1 l.length cap1)).toArray) (.slice q1 l.length cap1) (close3 g l) :=
        (hrow.chg (S := fun k => k = R) (Chg.setRow (lsC n g (.slice q1 l.length cap1)).toArray rfl) (fun b hb e => by omega)).cs3
      have z0 := hX.b.cell 0 (by simp [lsC])
      simp only [lsC, List.getElem_cons_zero] at z0
      replace hN := Lib.hid hN
      replace hlen := Lib.hid hlen
      replace hfin := Lib.hid hfin
      replace hrf := Lib.hid hrf
      replace hfr := Lib.hid hfr
      replace hX := Lib.hid hX
      clear hrow
      go_wp2_with (refine storeL hX.out.r rfl rfl _ _ rfl rfl rfl rfl ?_)
      refine bodyPost_ret (results_row_slot rfl _ hfin.out.1 rfl _ Try.underlying41 rfl 3 size11 rfl) rfl ⟨_, by rw [← hN.out]; rfl, hrf.out, hfr.out, hfin.out.2⟩
end Go.Proofs.Ytllnncojafcdoaa
