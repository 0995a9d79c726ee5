/- The reference of layer 2: what a ring holds is a list. -/
import Derived.Test.YtkchcckdfbpdmaaSame
import Derived.Deep.RegionHeld3
import Derived.Deep.AppendLies
namespace Go.Proofs.Ytkchcckdfbpdmaa
open Go.RowKit
theorem infoI : (Try.prog.info? 3).map (fun i => (i.zero, i.size, i.bytes)) = some (some (.int .i64 0), 1, 8) := by kernel_rfl
theorem row_slice {w : World} {base : Nat} {e : TypeId} {v : Value} {n : Nat} {xs : List Value} (h : w.ownsRow base e 1 v n xs) : ∃ p cap, v = .slice p n cap := by
  rcases h.2 with ⟨rfl, e2⟩ | ⟨g, cap, cur, rfl, _⟩
  · obtain rfl : n = 0 := e2
    exact ⟨_, _, rfl⟩
  · exact ⟨_, _, rfl⟩

set_option maxRecDepth 100000 in
set_option maxHeartbeats 1000000 in
theorem refPush_any (m zs : List Int) (room : Nat) (mv v : Value) (w : World) (hm : Ints w mv m) (hz : Ints w v zs) (h1 : m.length ≤ room) (h2 : room ≤ 256) :
    Calls Try.prog 17 #[mv, v, .int .i64 room] w fun e w' => ∃ u, e = .returned (.tuple #[u, .int .i64 (min zs.length (room - m.length) : Nat)]) ∧ w'.ownsRow w.heap.size 3 1 u (m ++ zs.take (room - m.length)).length ((m ++ zs.take (room - m.length)).map (Value.int .i64)) ∧ Keeps w w' := by
  obtain ⟨p', cap', rfl, hl', hc', hcell'⟩ := hz.open
  have hown := ownsRow_empty w 3 w.heap.size (Nat.le_refl _)
  have hsrc : Slc (w.alloc (.cells #[] 3)) mv (m.map (Value.int .i64)) := Slc.below hm (Keeps.alloc w _)
  have hB0 := Keeps.alloc w (.cells #[] 3)
  obtain ⟨d, hd⟩ : ∃ d, d = room - m.length := ⟨_, rfl⟩
  have hmd : m.length + d = room := by omega
  rw [← hd]
  clear hm hz hd
  go_enter Try.func17, Try.ntmps17
  go_wp2_with (at_builtin; refine appS rfl _ _ 48 3 (.int .i64 0) 8 rfl Try.underlying48 infoI rfl w.heap.size _ _ _ rfl hown _ _ rfl hsrc ?_ ?_ ?_ ?_ ?_)
  · intro y hy; simp [List.mem_map] at hy; rcases hy with ⟨_, _, rfl⟩; rfl
  · rw [List.length_map]; unfold maxLen; omega
  · rw [List.length_map]; omega
  · exact hB0.size
  · intro v' w1 hown' _ hbel
    have hown' : w1.ownsRow w.heap.size 3 1 v' m.length (m.map (Value.int .i64)) := by simpa using hown'
    have hK1 : Keeps w w1 := Below.trans hB0 hbel
    clear hown hsrc hbel hB0
    go_wp2
    go_loopw [8, 9, 10] (fun o n i wr => ∃ k : Nat, k ≤ zs.length ∧ k ≤ d ∧ i = .int .i64 k ∧ n = .int .i64 k ∧ wr.ownsRow w.heap.size 3 1 o (m.length + k) ((m ++ zs.take k).map (Value.int .i64)) ∧ Keeps w wr) (fun _ _ i _ => zs.length - (intOf i).toNat)
    case atStart => exact ⟨0, Nat.zero_le _, Nat.zero_le _, rfl, rfl, by simpa using hown', hK1⟩
    case round =>
      obtain ⟨k, hk, hkd, rfl, rfl, hrow, hK⟩ := hrel
      obtain ⟨q, cp, hq⟩ := row_slice hrow
      by_cases hlt : k < zs.length
      · by_cases hr : k < d
        · obtain ⟨b1, o1, rfl, g1⟩ := hcell' k hlt
          have g1 := (hK.cell (p := ⟨b1, o1 + k, none⟩) (cell_lt g1)).trans g1
          have hlr : decide (((m.length + k : Nat) : Int) < (room : Int)) = true := decide_eq_true (by omega)
          have hnext := Lib.hid (show zs.take (k + 1) = zs.take k ++ [zs[k]] by rw [List.take_succ_eq_append_getElem hlt])
          clear hcell'
          subst hq
          go_wp2_with (at_builtin; refine app1 rfl _ _ 48 3 (.int .i64 0) 8 rfl Try.underlying48 infoI rfl w.heap.size _ _ _ rfl hrow _ rfl rfl (by unfold maxLen; omega) (by omega) hK.size ?_; intro g cap w1 hown' hgrow hbel)
          go_roundw
          case rel =>
            refine ⟨k + 1, by omega, by omega, by go_num, by go_num, ?_, Below.trans hK hbel⟩
            rw [hnext.out, ← List.append_assoc, List.map_append]
            exact hown'
          case measure => (simp [intOf]; try omega)
        · obtain rfl : k = d := by omega
          have hlr : decide (((m.length + k : Nat) : Int) < (room : Int)) = false := decide_eq_false (by omega)
          have hmin := Lib.hid (show min zs.length k = k by omega)
          subst hq
          clear hcell'
          go_wp2
          go_ret2
          refine ⟨_, by rw [hmin.out]; rfl, ?_, hK⟩
          rw [List.length_append, List.length_take, Nat.min_eq_left (by omega)]
          exact hrow
      · obtain rfl : k = zs.length := by omega
        have hmin := Lib.hid (show min zs.length d = zs.length by omega)
        subst hq
        clear hcell'
        go_wp2
        go_ret2
        refine ⟨_, by rw [hmin.out]; rfl, ?_, hK⟩
        rw [List.take_of_length_le (by omega), List.length_append]
        rw [List.take_of_length_le (by omega)] at hrow
        exact hrow

set_option maxHeartbeats 1000000 in
theorem refTake_no (m : List Int) (i : Int) (mv : Value) (w : World) (hm : Ints w mv m) (hi : i < 0 ∨ (m.length : Int) ≤ i) :
    Calls Try.prog 19 #[mv, .int .i64 i] w fun e w' => e = .returned (.tuple #[mv, .int .i64 0, .bool false]) ∧ w = w' := by
  obtain ⟨p, cap, rfl, hl, hc, hcell⟩ := hm.open
  clear hcell hm
  by_cases h0 : i < 0
  · go_enter Try.func19, Try.ntmps19
    go_wp2
    go_ret3
    exact ⟨rfl, rfl⟩
  · have hge : (m.length : Int) ≤ i := by omega
    clear hi
    go_enter Try.func19, Try.ntmps19
    go_wp2
    go_ret3
    exact ⟨rfl, rfl⟩

theorem drop_slc {w : World} {c off n cap : Nat} {zs : List Int} (h : Ints w (.slice (some ⟨c, off, none⟩) n cap) zs) (k : Nat) (hk : k ≤ zs.length) :
    ∃ ad, (if cap = k then some (⟨c, off, none⟩ : Addr) else some ⟨c, off + k, none⟩) = some ad ∧ Ints w (.slice (some ad) (n - k) (cap - k)) (zs.drop k) := by
  obtain ⟨q, cp, hv, hl, hc, hn, h⟩ := h
  rw [List.length_map] at hv hl h
  obtain ⟨rfl, rfl, rfl⟩ : q = some ⟨c, off, none⟩ ∧ n = zs.length ∧ cap = cp := by simp at hv; exact ⟨hv.1.symm, hv.2.1, hv.2.2⟩
  by_cases hck : cap = k
  · rw [if_pos hck]
    exact ⟨_, rfl, _, cap - k, by rw [List.length_map, List.length_drop], by rw [List.length_map, List.length_drop]; omega, by omega, fun h => (by cases h), fun j hj => absurd hj (by rw [List.length_map, List.length_drop]; omega)⟩
  · rw [if_neg hck]
    refine ⟨_, rfl, _, cap - k, by rw [List.length_map, List.length_drop], by rw [List.length_map, List.length_drop]; omega, by omega, fun h => (by cases h), fun j hj => ⟨c, off + k, rfl, ?_⟩⟩
    rw [List.length_map, List.length_drop] at hj
    obtain ⟨c', off', he, hcell⟩ := h (k + j) (by omega)
    obtain ⟨rfl, rfl⟩ : c = c' ∧ off = off' := by simpa using he
    rw [Nat.add_assoc, hcell]
    simp [List.getD]
theorem own_far {w : World} {base : Nat} {e : TypeId} {v : Value} {n c : Nat} {xs : List Value} (h : w.ownsRow base e 1 v n xs) (hc : c < base) : v.ownBlock ≠ some c := by
  rcases h.2 with ⟨rfl, _⟩ | ⟨g, cap, cur, rfl, hb, _⟩
  · simp [Value.ownBlock]
  · simp only [Value.ownBlock, ne_eq, Option.some.injEq]; omega
theorem Slc.drew {w : World} {v : Value} {xs : List Value} (h : Slc w v xs) : Slc w.drew v xs := h

set_option maxRecDepth 100000 in
set_option maxHeartbeats 1000000 in
theorem refTake_yes (m : List Int) (i : Nat) (mv : Value) (w : World) (hm : Ints w mv m) (hi : i < m.length) (h2 : m.length ≤ 256) :
    Calls Try.prog 19 #[mv, .int .i64 i] w fun e w' => ∃ u, e = .returned (.tuple #[u, .int .i64 m[i], .bool true]) ∧ w'.ownsRow w.heap.size 3 1 u (m.take i ++ m.drop (i + 1)).length ((m.take i ++ m.drop (i + 1)).map (Value.int .i64)) ∧ Keeps w w' := by
  obtain ⟨p, cap, rfl, hl, hc, hcell⟩ := hm.open
  obtain ⟨c, off, rfl, g1⟩ := hcell i hi
  have hown := ownsRow_empty w 3 w.heap.size (Nat.le_refl _)
  have hB0 := Keeps.alloc w (.cells #[] 3)
  have hsrc : Slc (w.alloc (.cells #[] 3)) (.slice (some ⟨c, off, none⟩) i cap) ((m.take i).map (Value.int .i64)) := Slc.below (hm.take i (by omega)) hB0
  obtain ⟨ad, had, hd⟩ := drop_slc hm (i + 1) (by omega)
  clear hcell hm
  go_enter Try.func19, Try.ntmps19
  go_wp2_with (at_builtin; refine appS rfl _ _ 48 3 (.int .i64 0) 8 rfl Try.underlying48 infoI rfl w.heap.size _ _ _ rfl hown _ _ rfl hsrc ?_ ?_ ?_ ?_ ?_)
  · intro y hy; obtain ⟨_, _, rfl⟩ := List.mem_map.1 hy; rfl
  · rw [List.length_map, List.length_take]; unfold maxLen; omega
  · rw [List.length_map, List.length_take]; omega
  · exact hB0.size
  · intro v' w1 hown' _ hbel
    have hK1 : Keeps w w1 := Below.trans hB0 hbel
    have hown' : w1.ownsRow w.heap.size 3 1 v' i ((m.take i).map (Value.int .i64)) := by simpa [Nat.min_eq_left (show i ≤ m.length by omega)] using hown'
    obtain ⟨q, cp, rfl⟩ := row_slice hown'
    have lc0 : c < w.heap.size := cell_lt g1
    have g1 := (hK1.cell (p := ⟨c, off + i, none⟩) (cell_lt g1)).trans g1
    replace hd := Slc.below hd hK1
    clear hown hsrc hbel hB0
    go_wp2_with fail
    have hn1 : ((i : Int) + 1) ≤ (m.length : Int) := by omega
    have hne : (Value.slice q i cp).ownBlock ≠ some c := own_far hown' lc0
    have hyy : ∀ y ∈ (m.drop (i + 1)).map (Value.int .i64), y.oneCell' = true := by intro y hy; obtain ⟨_, _, rfl⟩ := List.mem_map.1 hy; rfl
    have hz1 : i + ((m.drop (i + 1)).map (Value.int .i64)).length ≤ maxLen := by rw [List.length_map, List.length_drop]; unfold maxLen; omega
    have hz2 : (i + ((m.drop (i + 1)).map (Value.int .i64)).length) * 8 ≤ 140737488355328 := by rw [List.length_map, List.length_drop]; omega
    have lc := cell_lt g1
    have hn0 : (0 : Int) ≤ (i : Int) + 1 := by omega
    have hi0 : (0 : Int) ≤ (i : Int) := by omega
    have hi1 : (i : Int) < (m.length : Int) := by omega
    have hnc : (m.length : Int) ≤ (cap : Int) := by omega
    have hwr : IntKind.i64.wrap ((i : Int) + 1) = (i : Int) + 1 := IntWalk.i64_in _ (by omega)
    have htn : ((i : Int) + 1).toNat = i + 1 := by omega
    go_region_held3 (fun w' => w'.cell? ⟨c, off + i, none⟩ = some (.int .i64 m[i]))
      (first
        | go_keep
        | (rw [hgrow.cell_far _ (by simp; omega) (Ne.symm hne)]; assumption))
      ((refine appStep (by rfl) _ _ 48 3 (.int .i64 0) 8 (by rfl) Try.underlying48 infoI rfl w.heap.size _ _ _ (by rfl) hown'.drew (some ad) _ _ _ (by rfl) (by simp) (Slc.drew hd) hyy hz1 hz2 hK1.size ?_; intro u w2 hown2 hgrow hbel2))
    go_wp2
    go_ret3
    refine ⟨_, rfl, ?_, Below.trans hK1 ⟨hbel2.os, hbel2.tape, hbel2.output, hbel2.size, fun k hk => hbel2.block k hk⟩⟩
    simpa [Nat.min_eq_left (show i ≤ m.length by omega)] using hown2
end Go.Proofs.Ytkchcckdfbpdmaa
