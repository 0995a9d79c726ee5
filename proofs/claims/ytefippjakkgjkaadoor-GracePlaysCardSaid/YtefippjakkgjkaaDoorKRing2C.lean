/- The walks of package ring, at callbacks (two cells each). -/
import Derived.Test.YtefippjakkgjkaaDoorRingM
import Derived.Test.YtefippjakkgjkaaDoorStr2
import Derived.Test.YtefippjakkgjkaaDoorQuietRow
namespace Go.Proofs.YtefippjakkgjkaaDoor.K
open Go.RowKit Go.Proofs.YtefippjakkgjkaaDoor

abbrev El : Type := Int × Int
def zE : El := (0, 0)
def xc (x : El) : List Value := [.int .i64 x.1, .int .i64 x.2]
theorem xc_len (x : El) : (xc x).length = 2 := rfl
theorem xc_one (x : El) : ∀ y ∈ xc x, y.oneCell' = true := by
  intro y hy
  simp only [xc, List.mem_cons, List.not_mem_nil, or_false] at hy
  rcases hy with rfl | rfl <;> rfl
/-- The places from hd on, and around, hold xs. -/
def HoldsE (els : List (List Value)) (room hd : Nat) (xs : List El) : Prop := ∀ i (hi : i < xs.length), els[(hd + i) % room]? = some (xc xs[i])
/-- A ring at p over the block b: room places, the head, the things in order. -/
structure RingAt (w : World) (p b room hd : Nat) (xs : List El) : Prop where
  ne : p ≠ b
  hdr : Blk w p 133 [.slice (some ⟨b, 0, none⟩) room room, .int .i64 hd, .int .i64 xs.length]
  buf : ∃ els, Blk w b 114 els.flatten ∧ els.length = room ∧ (∀ el ∈ els, el.length = 2) ∧ HoldsE els room hd xs
  hdlt : hd < room
  len : xs.length ≤ room
  lo : 1 ≤ room
  hi : room ≤ 256
theorem RingAt.below {w w' : World} {p b room hd n : Nat} {xs : List El} (h : RingAt w p b room hd xs) (hb : Below n w w') (hp : p < n) (hq : b < n) : RingAt w' p b room hd xs :=
  ⟨h.ne, h.hdr.below hb hp, by obtain ⟨cs, h1, h2⟩ := h.buf; exact ⟨cs, h1.below hb hq, h2⟩, h.hdlt, h.len, h.lo, h.hi⟩
theorem RingAt.lt {w : World} {p b room hd : Nat} {xs : List El} (h : RingAt w p b room hd xs) : p < w.heap.size ∧ b < w.heap.size := ⟨h.hdr.lt, by obtain ⟨cs, h1, _⟩ := h.buf; exact h1.lt⟩
theorem RingAt.keeps {w w' : World} {p b room hd : Nat} {xs : List El} (h : RingAt w p b room hd xs) (hb : Keeps w w') : RingAt w' p b room hd xs := h.below hb h.lt.1 h.lt.2
theorem RingAt.chg {S : Nat → Prop} {w w' : World} {p b room hd : Nat} {xs : List El} (h : RingAt w p b room hd xs) (hc : Chg S w w') (hp : ¬ S p) (hq : ¬ S b) : RingAt w' p b room hd xs :=
  ⟨h.ne, h.hdr.chg hc hp, by obtain ⟨cs, h1, h2⟩ := h.buf; exact ⟨cs, h1.chg hc hq, h2⟩, h.hdlt, h.len, h.lo, h.hi⟩

theorem info : (Tryd.prog.info? 114).map (fun i => (i.zero, i.size, i.bytes)) = some (some (.agg (xc zE).toArray), 2, 16) := by kernel_rfl
theorem sizeE : (Tryd.prog.info? 114).map (·.size) = some 2 := by kernel_rfl
/-- The cells of a place. -/
theorem elsCell {w : World} {b : Nat} {t : TypeId} {els : List (List Value)} (h : Blk w b t els.flatten) (hs : ∀ el ∈ els, el.length = 2) {j : Nat} {el : List Value} (he : els[j]? = some el) (c : Nat) (hc : c < 2) : w.cell? ⟨b, j * 2 + c, none⟩ = some (el.getD c undef) := by
  obtain ⟨hj, rfl⟩ := List.getElem?_eq_some_iff.1 he
  have := flat_get hs j c hj hc
  rw [show els.getD j [] = els[j] by simp [List.getD, hj]] at this
  exact h.cellK this
theorem flat_put2 {els : List (List Value)} (hs : ∀ el ∈ els, el.length = 2) (j : Nat) (hj : j < els.length) (a b : Value) : (els.flatten.set (j * 2) a).set (j * 2 + 1) b = (els.set j [a, b]).flatten := by
  have h1 := flat_set hs j 0 a hj (by decide)
  rw [Nat.add_zero] at h1
  have hg : (els.getD j []).length = 2 := by simp [List.getD, hj]; exact hs _ (List.getElem_mem hj)
  have hs2 : ∀ el ∈ els.set j ((els.getD j []).set 0 a), el.length = 2 := by
    intro el h
    rcases List.mem_or_eq_of_mem_set h with h | rfl
    · exact hs el h
    · rw [List.length_set, hg]
  rw [h1, flat_set hs2 j 1 b (by rw [List.length_set]; exact hj) (by decide), List.set_set]
  congr 2
  generalize els.getD j [] = el at *
  match el, hg with
  | [x, y], _ => simp [List.getD, hj]
theorem put2_size {els : List (List Value)} (hs : ∀ el ∈ els, el.length = 2) (j : Nat) (a b : Value) : ∀ el ∈ els.set j [a, b], el.length = 2 := by
  intro el h
  rcases List.mem_or_eq_of_mem_set h with h | rfl
  · exact hs el h
  · rfl
set_option maxHeartbeats 400000 in
theorem place_any (p b room hd n : Nat) (i : Int) (w : World) (hb : Blk w p 133 [.slice (some ⟨b, 0, none⟩) room room, .int .i64 hd, .int .i64 n]) (h1 : hd < room) (h2 : 1 ≤ room) (h3 : room ≤ 256) (h4 : 0 ≤ i) (h5 : i ≤ 1000) :
    Calls Tryd.prog 75 #[.pointer (some ⟨p, 0, none⟩), .int .i64 i] w fun e w' => e = .returned (.int .i64 (((hd + i.toNat) % room : Nat))) ∧ ∃ n, w' = w.drewN n := by
  have c0 := hb.cell 0 (by simp)
  have c1 := hb.cell 1 (by simp)
  simp only [List.getElem_cons_zero, List.getElem_cons_succ] at c0 c1
  obtain ⟨k, rfl⟩ := Int.eq_ofNat_of_zero_le h4
  have hr0 : ((room : Int) == 0) = false := by rw [beq_eq_false_iff_ne]; omega
  go_enter Tryd.func75, Tryd.ntmps75
  go_wp2
  go_quiet (fail)
  go_wp2
  go_ret
  exact ⟨ret_int (by simp), _, rfl⟩

set_option maxHeartbeats 400000 in
theorem new_no (room : Int) (w : World) (h : room < 1 ∨ 256 < room) :
    Calls Tryd.prog 62 #[.int .i64 room] w fun e w' => e = .returned (.tuple #[.pointer none, .int .i64 2]) ∧ w = w' := by
  by_cases h1 : room < 1
  · go_enter Tryd.func62, Tryd.ntmps62
    go_wp2
    go_ret2
    exact ⟨rfl, rfl⟩
  · have h2 : 256 < room := by omega
    clear h
    go_enter Tryd.func62, Tryd.ntmps62
    go_wp2
    go_ret2
    exact ⟨rfl, rfl⟩

set_option maxHeartbeats 400000 in
theorem new_yes (room : Nat) (w : World) (h1 : 1 ≤ room) (h2 : room ≤ 256) :
    Calls Tryd.prog 62 #[.int .i64 room] w fun e w' => e = .returned (.tuple #[.pointer (some ⟨w.heap.size + 1, 0, none⟩), .int .i64 0]) ∧ RingAt w' (w.heap.size + 1) w.heap.size room 0 [] ∧ Keeps w w' := by
  have hmk := make_runS 122 114 _ (xc zE) 2 16 Tryd.underlying122 info rfl rfl (by decide) room (by omega) (by omega)
  have hb := Blk.new w 114 (List.replicate room (xc zE)).flatten
  generalize hels : List.replicate room (xc zE) = els at *
  replace hels := Lib.hid hels
  replace hb := Lib.hid hb
  go_enter Tryd.func62, Tryd.ntmps62
  go_wp2
  go_ret2
  refine ⟨rfl, ⟨by omega, ?_, ⟨els, hb.out.alloc _, by rw [← hels.out, List.length_replicate], ?_, fun i hi => absurd hi (by simp)⟩, by omega, by simp, h1, h2⟩, (Keeps.alloc _ _).trans (Keeps.alloc _ _)⟩
  · have := Blk.new (w.alloc (.cells els.flatten.toArray 114)) 133 [.slice (some ⟨w.heap.size, 0, none⟩) room room, .int .i64 0, .int .i64 0]
    rw [World.size_alloc] at this
    exact this
  · intro el hel
    rw [← hels.out] at hel
    rw [List.eq_of_mem_replicate hel]; rfl

set_option maxHeartbeats 400000 in
theorem len_nil (w : World) : Calls Tryd.prog 94 #[.pointer none] w fun e w' => e = .returned (.int .i64 0) ∧ w = w' := by
  go_enter Tryd.func94, Tryd.ntmps94
  go_wp2
  go_ret
  exact ⟨rfl, rfl⟩
set_option maxHeartbeats 400000 in
theorem len_any {p b room hd : Nat} {xs : List El} {w : World} (h : RingAt w p b room hd xs) : Calls Tryd.prog 94 #[.pointer (some ⟨p, 0, none⟩)] w fun e w' => e = .returned (.int .i64 xs.length) ∧ w = w' := by
  have c2 := h.hdr.cell 2 (by simp)
  simp only [List.getElem_cons_zero, List.getElem_cons_succ] at c2
  go_enter Tryd.func94, Tryd.ntmps94
  go_wp2
  go_ret
  exact ⟨rfl, rfl⟩
/-- A new block is as it was made, and may be written. -/
theorem keeps_new2 {w W : World} {g : Nat} (hK : Keeps w W) (hg : w.heap.size ≤ g) (a b : Value) : Keeps w ((W.setCell ⟨g, 0, none⟩ a).setCell ⟨g, 1, none⟩ b) :=
  (((Chg.of_keeps (S := fun _ => False) hK).newCell hg _ _).newCell hg _ _).keeps_new (fun _ _ h => h)

set_option maxHeartbeats 1000000 in
theorem at_no (q : Value) (i : Int) (w : World) (h : q = .pointer none ∨ ∃ p b room hd xs, q = .pointer (some ⟨p, 0, none⟩) ∧ RingAt w p b room hd xs ∧ (i < 0 ∨ (xs.length : Int) ≤ i)) :
    Calls Tryd.prog 92 #[q, .int .i64 i] w fun e w' => e = .returned (.tuple #[.agg #[.int .i64 0, .int .i64 0], .bool false]) ∧ Keeps w w' := by
  obtain ⟨B0, hB0⟩ : ∃ B0, B0 = w.heap.size := ⟨_, rfl⟩
  rcases h with rfl | ⟨p, b, room, hd, xs, rfl, h, hi⟩
  · go_enter Tryd.func92, Tryd.ntmps92
    go_upto_region 1 with (fail)
    rw [← hB0]
    refine wp_gen (fun W => Blk W B0 114 (xc zE) ∧ Keeps w W) ⟨Blk.at hB0 rfl, Keeps.alloc _ _⟩ ?_
    rintro W ⟨hR, hK⟩
    have r0 := hR.cell 0 (by simp [xc])
    have r1 := hR.cell 1 (by simp [xc])
    have g0 := hR.frozen 0
    have g1 := hR.frozen 1
    have hlt := hR.lt
    simp only [xc, List.getElem_cons_zero, List.getElem_cons_succ] at r0 r1
    replace hR := Lib.hid hR
    replace hK := Lib.hid hK
    replace hB0 := Lib.hid hB0
    go_wp2_with fail
    exact bodyPost_ret (results_row_slot (cs := xc zE) rfl _ (((hR.out.set 0 _).set 1 _).alloc _) rfl _ Tryd.underlying114 rfl 2 sizeE rfl) rfl ⟨rfl, Keeps.trans (keeps_new2 hK.out (Nat.le_of_eq hB0.out.symm) _ _) (Keeps.alloc _ _)⟩
  · have c2 := h.hdr.cell 2 (by simp)
    simp only [List.getElem_cons_zero, List.getElem_cons_succ] at c2
    have hcase : i < 0 ∨ (¬ i < 0 ∧ (xs.length : Int) ≤ i) := by omega
    have hp := h.hdr.lt
    clear hi h
    rcases hcase with h0 | ⟨h0, h1⟩
    all_goals
      go_enter Tryd.func92, Tryd.ntmps92
      go_upto_region 1 with (fail)
      rw [← hB0]
      refine wp_gen (fun W => (Blk W B0 114 (xc zE) ∧ W.cell? ⟨p, 2, none⟩ = some (.int .i64 xs.length)) ∧ Keeps w W) ⟨⟨Blk.at hB0 rfl, by rw [(Keeps.alloc w _).cell (p := ⟨p, 2, none⟩) hp]; exact c2⟩, Keeps.alloc _ _⟩ ?_
      clear c2
      rintro W ⟨⟨hR, c2⟩, hK⟩
      have r0 := hR.cell 0 (by simp [xc])
      have r1 := hR.cell 1 (by simp [xc])
      have g0 := hR.frozen 0
      have g1 := hR.frozen 1
      have hlt := hR.lt
      simp only [xc, List.getElem_cons_zero, List.getElem_cons_succ] at r0 r1
      replace hR := Lib.hid hR
      replace hK := Lib.hid hK
      replace hB0 := Lib.hid hB0
      go_wp2_with fail
      exact bodyPost_ret (results_row_slot (cs := xc zE) rfl _ (((hR.out.set 0 _).set 1 _).alloc _) rfl _ Tryd.underlying114 rfl 2 sizeE rfl) rfl ⟨rfl, Keeps.trans (keeps_new2 hK.out (Nat.le_of_eq hB0.out.symm) _ _) (Keeps.alloc _ _)⟩

set_option maxHeartbeats 1000000 in
theorem at_yes {p b room hd : Nat} {xs : List El} {w : World} (i : Nat) (h : RingAt w p b room hd xs) {x : El} (hix : xs[i]? = some x) :
    Calls Tryd.prog 92 #[.pointer (some ⟨p, 0, none⟩), .int .i64 i] w fun e w' => e = .returned (.tuple #[.agg #[.int .i64 x.1, .int .i64 x.2], .bool true]) ∧ Keeps w w' := by
  obtain ⟨B0, hB0⟩ : ∃ B0, B0 = w.heap.size := ⟨_, rfl⟩
  have hall := fun (W : World) (hk : Keeps w W) => h.keeps hk
  have h1 := h.hdlt
  have h3 := h.lo
  have h4 := h.hi
  have hl := h.len
  have hp := h.lt
  obtain ⟨hi, hx⟩ := List.getElem?_eq_some_iff.1 hix
  clear hix
  replace hall := Lib.hid hall
  replace hx := Lib.hid hx
  clear h
  go_enter Tryd.func92, Tryd.ntmps92
  go_upto_region 1 with (fail)
  rw [← hB0]
  refine wp_gen (fun W => Blk W B0 114 (xc zE) ∧ Keeps w W) ⟨Blk.at hB0 rfl, Keeps.alloc _ _⟩ ?_
  rintro W ⟨hR, hK⟩
  have h := hall.out W hK
  obtain ⟨hne, hb, ⟨els, hbuf, hcl, hs, hcs⟩, _, _, _, _⟩ := h
  have c0 := hb.cell 0 (by simp)
  have c2 := hb.cell 2 (by simp)
  simp only [List.getElem_cons_zero, List.getElem_cons_succ] at c0 c2
  have hj : (hd + i) % room < room := Nat.mod_lt _ (by omega)
  have e0 := elsCell hbuf hs (hcs i hi) 0 (by decide)
  have e1 := elsCell hbuf hs (hcs i hi) 1 (by decide)
  rw [hx.out] at e0 e1
  simp only [xc, Nat.add_zero, List.getD_cons_zero, List.getD_cons_succ] at e0 e1
  have hplace := fun n => place_any p b room hd xs.length (i : Int) (W.drewN n) hb h1 h3 h4 (by omega) (by omega)
  rw [Int.toNat_natCast] at hplace
  have r0 := hR.cell 0 (by simp [xc])
  have r1 := hR.cell 1 (by simp [xc])
  have g0 := hR.frozen 0
  have g1 := hR.frozen 1
  simp only [xc, List.getElem_cons_zero, List.getElem_cons_succ] at r0 r1
  have hiI : (i : Int) < xs.length := by omega
  have hi0 : (0 : Int) ≤ i := by omega
  clear hcs hbuf hs hcl hall
  replace hplace := Lib.hid hplace
  replace hR := Lib.hid hR
  replace hK := Lib.hid hK
  replace hB0 := Lib.hid hB0
  generalize (hd + i) % room = j at *
  go_wp2_with fail
  refine region_quiet_tail 9 (by kernel_rfl) (by kernel_rfl) ?_
  simp only [List.take_succ_cons, List.take_zero, List.drop_succ_cons, List.drop_zero]
  repeat (quiet_step ((go_at_call 75; exact Calls.quiet_of (hplace.out _))))
  refine wpQuiet_nil ?_
  rintro _ ⟨nq, rfl⟩
  go_wp2_with fail
  exact bodyPost_ret (results_row_slot (cs := xc x) rfl _ (((hR.out.keeps (Keeps.drewN _ nq)).set 0 _).set 1 _) rfl _ Tryd.underlying114 rfl 2 sizeE rfl) rfl ⟨rfl, keeps_new2 (Keeps.trans hK.out (Keeps.drewN _ _)) (Nat.le_of_eq hB0.out.symm) _ _⟩

theorem RingAt.pushed {w : World} {p b room hd : Nat} {xs : List El} (h : RingAt w p b room hd xs) (hlt : xs.length < room) (x : El) :
    RingAt (((w.setCell ⟨b, (hd + xs.length) % room * 2, none⟩ (.int .i64 x.1)).setCell ⟨b, (hd + xs.length) % room * 2 + 1, none⟩ (.int .i64 x.2)).setCell ⟨p, 2, none⟩ (.int .i64 (xs.length + 1 : Nat))) p b room hd (xs ++ [x]) := by
  obtain ⟨hne, hb, ⟨els, hbuf, hcl, hs, hcs⟩, h1, h2, h3, h4⟩ := h
  have hm : (hd + xs.length) % room < room := Nat.mod_lt _ (by omega)
  refine ⟨hne, ?_, ⟨els.set ((hd + xs.length) % room) (xc x), ?_, by simp [hcl], put2_size hs _ _ _, ?_⟩, h1, by simp; omega, h3, h4⟩
  · have := ((hb.other hne ((hd + xs.length) % room * 2) (.int .i64 x.1)).other hne ((hd + xs.length) % room * 2 + 1) (.int .i64 x.2)).set 2 (.int .i64 (xs.length + 1 : Nat))
    simpa using this
  · have := ((hbuf.set ((hd + xs.length) % room * 2) (.int .i64 x.1)).set ((hd + xs.length) % room * 2 + 1) (.int .i64 x.2)).other (Ne.symm hne) 2 (.int .i64 (xs.length + 1 : Nat))
    rw [flat_put2 hs _ (by omega)] at this
    exact this
  · intro i hi
    rw [List.length_append, List.length_singleton] at hi
    by_cases he : i = xs.length
    · subst he
      rw [List.getElem?_set_self (by omega)]
      simp
    · have hi' : i < xs.length := by omega
      have hne' : (hd + xs.length) % room ≠ (hd + i) % room := by
        intro h
        rcases mod_two (hd + xs.length) room (by omega) with h5 | h5 <;> rcases mod_two (hd + i) room (by omega) with h6 | h6 <;> omega
      rw [List.getElem?_set_ne hne', hcs i hi', List.getElem_append_left hi']
theorem srcCell {w : World} {v : Value} {zs : List El} (h : SlcS 2 w v (zs.map xc)) : ∃ q cap, v = .slice q zs.length cap ∧ zs.length ≤ cap ∧ cap ≤ 9223372036854775807 ∧
    ∀ k (hk : k < zs.length), ∃ c off, q = some ⟨c, off, none⟩ ∧ ∀ j, j < 2 → w.cell? ⟨c, off + k * 2 + j, none⟩ = some ((xc zs[k]).getD j undef) := by
  obtain ⟨q, cap, hv, hl, hc, hn, hs, h⟩ := h
  rw [List.length_map] at hv hl h
  unfold maxLen at hc
  refine ⟨q, cap, hv, hl, hc, fun k hk => ?_⟩
  obtain ⟨c, off, hp, hcell⟩ := h k hk
  refine ⟨c, off, hp, fun j hj => ?_⟩
  rw [hcell j hj]; simp [List.getD, hk]
set_option maxHeartbeats 400000 in
theorem push_nil (v : Value) (w : World) : Calls Tryd.prog 63 #[.pointer none, v] w fun e w' => e = .returned (.int .i64 0) ∧ w = w' := by
  go_enter Tryd.func63, Tryd.ntmps63
  go_wp2
  go_ret
  exact ⟨rfl, rfl⟩
set_option maxRecDepth 100000 in
set_option maxHeartbeats 2000000 in
theorem push_any {p b room hd : Nat} {xs zs : List El} {v : Value} {w : World} (h : RingAt w p b room hd xs) (hv : SlcS 2 w v (zs.map xc)) (hsep : ∀ c, v.ownBlock = some c → 0 < zs.length → c ≠ p ∧ c ≠ b) :
    Calls Tryd.prog 63 #[.pointer (some ⟨p, 0, none⟩), v] w fun e w' => e = .returned (.int .i64 (min zs.length (room - xs.length) : Nat)) ∧ RingAt w' p b room hd (xs ++ zs.take (room - xs.length)) ∧ Chg (fun k => k = p ∨ k = b) w w' := by
  obtain ⟨q, cap, rfl, hl, hc, hcell⟩ := srcCell hv
  have hz0 : (0 : Int) ≤ zs.length := by omega
  obtain ⟨d, hd'⟩ : ∃ d : Nat, d = room - xs.length := ⟨_, rfl⟩
  have hle := h.len
  have hlo := h.lo
  have hhi := h.hi
  have hdd : (room : Int) - (xs.length : Int) = (d : Int) := by omega
  have c0 := h.hdr.cell 0 (by simp)
  have c2 := h.hdr.cell 2 (by simp)
  simp only [List.getElem_cons_zero, List.getElem_cons_succ] at c0 c2
  have hs := fun c off (e : q = some ⟨c, off, none⟩) (h0 : 0 < zs.length) => hsep c (by rw [e]; rfl) h0
  clear hsep hv
  rw [← hd']
  replace hd' := Lib.hid hd'
  have hp := h.lt
  obtain ⟨m, hm, hmin, htake, hcase⟩ : ∃ m : Nat, m ≤ zs.length ∧ Hid (min zs.length d = m) ∧ Hid (zs.take d = zs.take m) ∧ ((zs.length ≤ d ∧ m = zs.length) ∨ (d < zs.length ∧ m = d)) := by
    by_cases hcase : zs.length ≤ d
    · exact ⟨zs.length, Nat.le_refl _, Lib.hid (by omega), Lib.hid (by rw [List.take_of_length_le hcase, List.take_of_length_le (Nat.le_refl _)]), .inl ⟨hcase, rfl⟩⟩
    · exact ⟨d, by omega, Lib.hid (by omega), Lib.hid rfl, .inr ⟨by omega, rfl⟩⟩
  have hroom := Lib.hid (show ∀ k, k < m → xs.length + k < room by have := hd'.out; intro k hk; omega)
  have h0r := Lib.hid h
  clear h hle
  obtain ⟨m0, hm0⟩ : ∃ m0 : Nat, m0 = m := ⟨m, rfl⟩
  have hcase' : (zs.length ≤ d ∧ m0 = zs.length) ∨ (d < zs.length ∧ m0 = d) := by omega
  replace hm0 := Lib.hid hm0
  clear hcase
  rcases hcase' with ⟨hb, rfl⟩ | ⟨hb, rfl⟩
  all_goals
    go_enter Tryd.func63, Tryd.ntmps63
    go_wp2
    go_quiet (fail)
    go_wp2_with fail
    go_loopw [27] (fun i wr => ∃ k : Nat, k ≤ m ∧ i = .int .i64 k ∧ RingAt wr p b room hd (xs ++ zs.take k) ∧ Chg (fun k => k = p ∨ k = b) w wr) (fun i _ => m - (intOf i).toNat)
    case atStart => exact ⟨0, Nat.zero_le _, rfl, by rw [List.take_zero, List.append_nil]; exact h0r.out.keeps (Keeps.drewN _ _), Chg.of_keeps (Keeps.drewN _ _)⟩
    case round =>
      clear h0r
      obtain ⟨k, hk, rfl, hR, hM⟩ := hrel
      have hcase : k < m ∨ k = m := by omega
      rcases hcase with hlt | rfl
      · have hkz : k < zs.length := by omega
        obtain ⟨c, off, rfl, hck⟩ := hcell k hkz
        obtain ⟨hs1, hs2⟩ := hs c off rfl (by omega)
        have hck0 := (World.cell?_of_block (a := ⟨c, off + k * 2 + 0, none⟩) (hM.block c (cell_lt (hck 0 (by decide))) (by omega))).trans (hck 0 (by decide))
        have hck1 := (World.cell?_of_block (a := ⟨c, off + k * 2 + 1, none⟩) (hM.block c (cell_lt (hck 1 (by decide))) (by omega))).trans (hck 1 (by decide))
        simp only [xc, Nat.add_zero, List.getD_cons_zero, List.getD_cons_succ] at hck0 hck1
        have hlen : (xs ++ zs.take k).length = xs.length + k := by rw [List.length_append, List.length_take]; omega
        have hlt2 := hroom.out k hlt
        have hnext := Lib.hid (show xs ++ zs.take (k + 1) = (xs ++ zs.take k) ++ [zs[k]] by rw [List.take_succ_eq_append_getElem hkz, List.append_assoc])
        have hx0 : (0 : Int) ≤ xs.length := by omega
        have hltI : (k : Int) < (m : Int) := by omega
        rw [← hm0.out] at hltI
        replace hR := Lib.hid hR
        replace hM := Lib.hid hM
        replace hlen := Lib.hid hlen
        clear hcell hs hck
        generalize zs[k] = x at *
        obtain ⟨W0, hW0⟩ : ∃ W0, W0 = wr.heap.size := ⟨_, rfl⟩
        go_upto_region 7 with (fail)
        rw [← hW0]
        refine wp_gen (fun W => Blk W W0 114 (xc x) ∧ Keeps wr W) ⟨Blk.at hW0 rfl, Keeps.alloc _ _⟩ ?_
        clear hck0 hck1
        rintro W ⟨hB, hK⟩
        have hRW := hR.out.keeps hK
        have hdr := hRW.hdr
        rw [hlen.out] at hdr
        have hj : (hd + (xs.length + k)) % room < room := Nat.mod_lt _ (by omega)
        have hplace := fun n => place_any p b room hd (xs.length + k) ((xs.length : Int) + (k : Int)) (W.drewN n) hdr hRW.hdlt hlo hhi (by omega) (by omega)
        rw [show ((xs.length : Int) + (k : Int)).toNat = xs.length + k by omega] at hplace
        have c0 := hdr.cell 0 (by simp)
        have c2 := hdr.cell 2 (by simp)
        have f2 := hdr.frozen 2
        have x0 := hB.cell 0 (by simp [xc])
        have x1 := hB.cell 1 (by simp [xc])
        simp only [xc, List.getElem_cons_zero, List.getElem_cons_succ] at c0 c2 x0 x1
        obtain ⟨els, hbuf, hcl, hsz, _⟩ := hRW.buf
        have hfl : (hd + (xs.length + k)) % room * 2 + 1 < els.flatten.length := by rw [flat_len hsz]; omega
        have e0 := hbuf.cellD ((hd + (xs.length + k)) % room * 2) (by omega)
        have e1 := hbuf.cellD ((hd + (xs.length + k)) % room * 2 + 1) hfl
        have f0 := hbuf.frozen ((hd + (xs.length + k)) % room * 2)
        have f1 := hbuf.frozen ((hd + (xs.length + k)) % room * 2 + 1)
        have hpu := fun nq => (hRW.keeps (Keeps.drewN W nq)).pushed (by rw [hlen.out]; omega) x
        rw [hlen.out] at hpu
        have hMW : Chg (fun k => k = p ∨ k = b) w W := hM.out.trans (Chg.of_keeps hK)
        replace hpu := Lib.hid hpu
        replace hplace := Lib.hid hplace
        replace hMW := Lib.hid hMW
        have hne := hRW.ne
        clear hRW hdr hbuf hcl hsz hfl hB hK hR hM
        generalize (hd + (xs.length + k)) % room = j at *
        generalize els.flatten.getD (j * 2) undef = g0 at *
        generalize els.flatten.getD (j * 2 + 1) undef = g1 at *
        clear hW0
        refine region_quiet_tail 12 (by kernel_rfl) (by kernel_rfl) ?_
        simp only [List.take_succ_cons, List.take_zero, List.drop_succ_cons, List.drop_zero]
        repeat (quiet_step ((go_at_call 75; exact Calls.quiet_of (hplace.out _))))
        refine wpQuiet_nil ?_
        rintro _ ⟨nq, rfl⟩
        go_wp2_with fail
        go_roundw
        case rel =>
          refine ⟨k + 1, by omega, by go_num, ?_, (((hMW.out.trans (Chg.of_keeps (Keeps.drewN W nq))).trans (Chg.setCell _ _ (.inr rfl))).trans (Chg.setCell _ _ (.inr rfl))).trans (Chg.setCell _ _ (.inl rfl))⟩
          rw [hnext.out, show ((xs.length : Int) + (k : Int) + 1) = ((xs.length + k + 1 : Nat) : Int) by omega]
          exact hpu.out nq
        case measure => (simp [intOf]; try omega)
      · clear hcell hs
        have hge : ∀ a : Nat, a = k → ¬ (k : Int) < (a : Int) := fun a e => by omega
        replace hge := hge _ hm0.out
        go_wp2_with fail
        go_ret
        exact ⟨ret_int (by first | rfl | (have h1 := hm0.out; have h2 := hmin.out; omega)), by rw [htake.out]; exact hR, hM⟩

/-- The places behind a pop. -/
def BufAt (w : World) (b room hd : Nat) (xs : List El) : Prop := ∃ els, Blk w b 114 els.flatten ∧ els.length = room ∧ (∀ el ∈ els, el.length = 2) ∧ HoldsE els room hd xs
theorem BufAt.other {w : World} {b room hd : Nat} {xs : List El} (h : BufAt w b room hd xs) {g : Nat} (hg : b ≠ g) (k : Nat) (v : Value) : BufAt (w.setCell ⟨g, k, none⟩ v) b room hd xs := by
  obtain ⟨els, h1, h2⟩ := h; exact ⟨els, h1.other hg k v, h2⟩
theorem BufAt.keeps {w w' : World} {b room hd : Nat} {xs : List El} (h : BufAt w b room hd xs) (hk : Keeps w w') : BufAt w' b room hd xs := by
  obtain ⟨els, h1, h2⟩ := h; exact ⟨els, h1.keeps hk, h2⟩
theorem RingAt.popBuf {w : World} {p b room hd : Nat} {x : El} {xs : List El} (h : RingAt w p b room hd (x :: xs)) :
    BufAt ((w.setCell ⟨b, hd * 2, none⟩ (.int .i64 0)).setCell ⟨b, hd * 2 + 1, none⟩ (.int .i64 0)) b room ((hd + 1) % room) xs := by
  obtain ⟨hne, hb, ⟨els, hbuf, hcl, hs, hcs⟩, h1, h2, h3, h4⟩ := h
  simp only [List.length_cons] at h2
  refine ⟨els.set hd (xc zE), ?_, by simp [hcl], put2_size hs _ _ _, ?_⟩
  · have := (hbuf.set (hd * 2) (.int .i64 0)).set (hd * 2 + 1) (.int .i64 0)
    rw [flat_put2 hs _ (by omega)] at this
    exact this
  · intro i hi
    have hm : ((hd + 1) % room + i) % room = (hd + (i + 1)) % room := by rw [Nat.mod_add_mod, Nat.add_assoc, Nat.add_comm 1 i]
    have hne' : hd ≠ (hd + (i + 1)) % room := by
      rcases mod_two (hd + (i + 1)) room (by omega) with h5 | h5 <;> omega
    rw [hm, List.getElem?_set_ne hne', hcs (i + 1) (by simpa using hi)]
    rfl
set_option maxHeartbeats 1000000 in
theorem pop_no (q : Value) (w : World) (h : q = .pointer none ∨ ∃ p b room hd, q = .pointer (some ⟨p, 0, none⟩) ∧ RingAt w p b room hd []) :
    Calls Tryd.prog 93 #[q] w fun e w' => e = .returned (.tuple #[.agg #[.int .i64 0, .int .i64 0], .bool false]) ∧ Keeps w w' := by
  obtain ⟨B0, hB0⟩ : ∃ B0, B0 = w.heap.size := ⟨_, rfl⟩
  have hat := fun (W : World) (hk : Keeps w W) => at_no q 0 W (by
    rcases h with h | ⟨p, b, room, hd, h1, h2⟩
    · exact .inl h
    · exact .inr ⟨p, b, room, hd, [], h1, h2.keeps hk, .inr (by simp)⟩)
  clear h
  replace hat := Lib.hid hat
  go_enter Tryd.func93, Tryd.ntmps93
  go_upto_region 1 with (fail)
  rw [← hB0]
  refine wp_gen (fun W => Blk W B0 114 (xc zE) ∧ Keeps w W) ⟨Blk.at hB0 rfl, Keeps.alloc _ _⟩ ?_
  rintro W ⟨hR, hK⟩
  have hat2 := hat.out W hK
  replace hat2 := Lib.hid hat2
  replace hR := Lib.hid hR
  replace hK := Lib.hid hK
  replace hB0 := Lib.hid hB0
  go_wp2_with fail
  refine hat2.out.mono ?_
  rintro e W2 ⟨rfl, hK2⟩
  have hR := hR.out.keeps hK2
  have hK := Keeps.trans hK.out hK2
  have r0 := hR.cell 0 (by simp [xc])
  have r1 := hR.cell 1 (by simp [xc])
  have g0 := hR.frozen 0
  have g1 := hR.frozen 1
  have hlt := hR.lt
  simp only [xc, List.getElem_cons_zero, List.getElem_cons_succ] at r0 r1
  replace hR := Lib.hid hR
  replace hK := Lib.hid hK
  clear hK2 hat2 hat
  go_wp2_with fail
  exact bodyPost_ret (results_row_slot (cs := xc zE) rfl _ (((hR.out.set 0 _).set 1 _).alloc _) rfl _ Tryd.underlying114 rfl 2 sizeE rfl) rfl ⟨rfl, Keeps.trans (keeps_new2 hK.out (Nat.le_of_eq hB0.out.symm) _ _) (Keeps.alloc _ _)⟩
set_option maxRecDepth 100000 in
set_option maxHeartbeats 1000000 in
theorem pop_yes {p b room hd : Nat} {x : El} {xs : List El} {w : World} (h : RingAt w p b room hd (x :: xs)) :
    Calls Tryd.prog 93 #[.pointer (some ⟨p, 0, none⟩)] w fun e w' => e = .returned (.tuple #[.agg #[.int .i64 x.1, .int .i64 x.2], .bool true]) ∧ RingAt w' p b room ((hd + 1) % room) xs ∧ Chg (fun k => k = p ∨ k = b) w w' := by
  obtain ⟨B0, hB0⟩ : ∃ B0, B0 = w.heap.size := ⟨_, rfl⟩
  have hall := fun (W : World) (hk : Keeps w W) => h.keeps hk
  have hat := fun (W : World) (hk : Keeps w W) => at_yes 0 (h.keeps hk) (x := x) rfl
  have hne := h.ne
  have hlo := h.lo
  have hhi := h.hi
  have hdlt := h.hdlt
  have hll := h.len
  have hlt := h.lt
  rw [List.length_cons] at hll
  replace hat := Lib.hid hat
  replace hall := Lib.hid hall
  clear h
  go_enter Tryd.func93, Tryd.ntmps93
  go_upto_region 1 with (fail)
  rw [← hB0]
  refine wp_gen (fun W => Blk W B0 114 (xc zE) ∧ Keeps w W) ⟨Blk.at hB0 rfl, Keeps.alloc _ _⟩ ?_
  rintro W ⟨hR, hK⟩
  have hat2 := hat.out W hK
  rw [show ((0 : Nat) : Int) = 0 from rfl] at hat2
  replace hat2 := Lib.hid hat2
  replace hR := Lib.hid hR
  replace hK := Lib.hid hK
  replace hB0 := Lib.hid hB0
  clear hat
  go_wp2_with fail
  refine hat2.out.mono ?_
  rintro e W2 ⟨rfl, hK2⟩
  have hR := hR.out.keeps hK2
  have hK := Keeps.trans hK.out hK2
  obtain ⟨B2, hB2⟩ : ∃ B2, B2 = W2.heap.size := ⟨_, rfl⟩
  have hB2lt : w.heap.size < B2 := by have := hR.lt; rw [← hB0.out]; omega
  replace hR := Lib.hid hR
  replace hK := Lib.hid hK
  clear hK2 hat2
  go_upto_region 4 with (fail)
  rw [← hB2]
  refine wp_gen (fun W => Blk W B0 114 (xc zE) ∧ Blk W B2 114 (xc x) ∧ Blk W (B2 + 1) 114 (xc zE) ∧ Keeps w W) ⟨(hR.out.alloc _).alloc _, (Blk.at hB2 rfl).alloc _, Blk.at (by rw [World.size_alloc, hB2]) rfl, Keeps.trans (Keeps.trans hK.out (Keeps.alloc _ _)) (Keeps.alloc _ _)⟩ ?_
  clear hR hK hB2
  rintro W3 ⟨hR, hX, hZ, hK⟩
  have hA := hall.out W3 hK
  have hdr := hA.hdr
  have hbufA := hA.buf
  have hpb := trivial
  have c0 := hdr.cell 0 (by simp)
  have c1 := hdr.cell 1 (by simp)
  have z0 : W3.cell? ⟨B2 + 1, 0, none⟩ = some (.int .i64 0) := hZ.cell 0 (by simp [xc])
  have z1 : W3.cell? ⟨B2 + 1, 1, none⟩ = some (.int .i64 0) := hZ.cell 1 (by simp [xc])
  simp only [List.getElem_cons_zero, List.getElem_cons_succ] at c0 c1
  obtain ⟨els, hbuf, hcl, hsz, _⟩ := hbufA
  have hfl : hd * 2 + 1 < els.flatten.length := by rw [flat_len hsz]; omega
  have e0 := hbuf.cellD (hd * 2) (by omega)
  have e1 := hbuf.cellD (hd * 2 + 1) hfl
  have f0 := hbuf.frozen (hd * 2)
  have f1 := hbuf.frozen (hd * 2 + 1)
  generalize els.flatten.getD (hd * 2) undef = v0 at *
  generalize els.flatten.getD (hd * 2 + 1) undef = v1 at *
  have hd0 : (0 : Int) ≤ hd := by omega
  have hd1 : (hd : Int) < room := by omega
  clear hA hbuf hcl hsz hfl hZ
  replace hdr := Lib.hid (fun nq => (((hdr.keeps (Keeps.drewN W3 nq)).other hne (hd * 2) (.int .i64 0)).other hne (hd * 2 + 1) (.int .i64 0)))
  replace hpb := Lib.hid (fun nq => (hall.out _ (Keeps.trans hK (Keeps.drewN W3 nq))).popBuf)
  have hne0 : B0 ≠ b := by have := hB0.out; omega
  have hne2 : B2 ≠ b := by omega
  have hne3 : B2 ≠ p := by omega
  have hne4 : B0 ≠ p := by have := hB0.out; omega
  have hne5 : B2 ≠ B0 := by have := hB0.out; omega
  replace hR := Lib.hid (fun nq => (((hR.keeps (Keeps.drewN W3 nq)).other hne0 (hd * 2) (.int .i64 0)).other hne0 (hd * 2 + 1) (.int .i64 0)))
  replace hX := Lib.hid (fun nq => (((hX.keeps (Keeps.drewN W3 nq)).other hne2 (hd * 2) (.int .i64 0)).other hne2 (hd * 2 + 1) (.int .i64 0)))
  have hC := Lib.hid (fun nq => ((Chg.of_keeps (S := fun k => k = p ∨ k = b) (Keeps.trans hK (Keeps.drewN W3 nq))).trans (Chg.setCell (hd * 2) (.int .i64 0) (.inr rfl))).trans (Chg.setCell (hd * 2 + 1) (.int .i64 0) (.inr rfl)))
  clear hK hall
  refine region_quiet_tail 10 (by kernel_rfl) (by kernel_rfl) ?_
  simp only [List.take_succ_cons, List.take_zero, List.drop_succ_cons, List.drop_zero]
  repeat (quiet_step (fail))
  refine wpQuiet_nil ?_
  rintro _ ⟨nq, rfl⟩
  go_upto_region 5 with (fail)
  refine wp_gen (fun W => (Blk W p 133 [.slice (some ⟨b, 0, none⟩) room room, .int .i64 hd, .int .i64 (x :: xs).length] ∧ BufAt W b room ((hd + 1) % room) xs) ∧ Blk W B0 114 (xc zE) ∧ Blk W B2 114 (xc x) ∧ Chg (fun k => k = p ∨ k = b) w W) ⟨⟨hdr.out nq, hpb.out nq⟩, hR.out nq, hX.out nq, hC.out nq⟩ ?_
  clear hdr hpb hR hX hC c0 c1 z0 z1 e0 e1 f0 f1
  rintro W4 ⟨⟨hdr, hpb⟩, hR, hX, hC⟩
  rw [List.length_cons] at hdr
  have hplace := place_any p b room hd (xs.length + 1) 1 W4 hdr hdlt hlo hhi (by omega) (by omega)
  rw [show (1 : Int).toNat = 1 from rfl] at hplace
  have g1 := hdr.cell 1 (by simp)
  have k1 := hdr.frozen 1
  have g2 := hdr.cell 2 (by simp)
  have k2 := hdr.frozen 2
  have x0 := hX.cell 0 (by simp [xc])
  have x1 := hX.cell 1 (by simp [xc])
  have r0 := hR.cell 0 (by simp [xc])
  have r1 := hR.cell 1 (by simp [xc])
  have q0 := hR.frozen 0
  have q1 := hR.frozen 1
  simp only [xc, List.getElem_cons_zero, List.getElem_cons_succ] at g1 g2 x0 x1 r0 r1
  have hlen0 : (0 : Int) ≤ xs.length := by omega
  have hlen1 : (xs.length : Int) ≤ 256 := by omega
  replace hplace := Lib.hid hplace
  replace hdr := Lib.hid hdr
  replace hpb := Lib.hid hpb
  replace hR := Lib.hid hR
  replace hC := Lib.hid hC
  replace hX := Lib.hid hX
  have hmod := Lib.hid (Nat.mod_lt (hd + 1) (show 0 < room by omega))
  generalize hhd : (hd + 1) % room = hd' at *
  replace hhd := Lib.hid hhd
  go_wp2_with fail
  with_reducible refine hplace.out.mono ?_
  rintro e w3 ⟨rfl, n3, rfl⟩
  go_wp2_with fail
  have h9 := hhd.out
  subst h9
  refine bodyPost_ret (results_row_slot (cs := xc x) rfl _ (((((hR.out.keeps (Keeps.drewN _ n3)).other hne4 1 _).other hne4 2 _).set 0 _).set 1 _) rfl _ Tryd.underlying114 rfl 2 sizeE rfl) rfl ⟨rfl, ⟨hne, ?_, ?_, hmod.out, by omega, hlo, hhi⟩, ?_⟩
  · have := ((((hdr.out.keeps (Keeps.drewN _ n3)).set 1 (.int .i64 ((hd + 1) % room : Nat))).set 2 (.int .i64 (xs.length : Int))).other hne4.symm 0 (.int .i64 x.1)).other hne4.symm 1 (.int .i64 x.2)
    exact this
  · exact ((((hpb.out.keeps (Keeps.drewN _ n3)).other hne.symm _ _).other hne.symm _ _).other hne0.symm _ _).other hne0.symm _ _
  · exact ((((hC.out.trans (Chg.of_keeps (Keeps.drewN _ n3))).trans (Chg.setCell _ _ (.inl rfl))).trans (Chg.setCell _ _ (.inl rfl))).newCell (Nat.le_of_eq hB0.out.symm) _ _).newCell (Nat.le_of_eq hB0.out.symm) _ _

/-- One thing, pushed out of a new slice. -/
theorem push1_any {p b room hd : Nat} {xs : List El} {w W : World} (h : RingAt w p b room hd xs) (hlt : xs.length < room) (x : El) (sb : Nat) (hsb : sb = w.heap.size) (hW : W = w.alloc (.cells (xc x).toArray 114)) :
    Calls Tryd.prog 63 #[.pointer (some ⟨p, 0, none⟩), .slice (some ⟨sb, 0, none⟩) 1 1] W fun e w' => e = .returned (.int .i64 1) ∧ RingAt w' p b room hd (xs ++ [x]) ∧ Chg (fun k => k = p ∨ k = b) w w' := by
  subst hsb hW
  obtain ⟨hp, hb⟩ := h.lt
  have hn : SlcS 2 (w.alloc (.cells (xc x).toArray 114)) (.slice (some ⟨w.heap.size, 0, none⟩) 1 1) ([x].map xc) := slcs_one (Blk.new w 114 (xc x)) rfl
  refine (push_any (h.keeps (Keeps.alloc _ _)) hn (fun c e _ => ?_)).mono ?_
  · simp [Value.ownBlock] at e
    omega
  · rintro e w' ⟨rfl, hR, hM⟩
    refine ⟨ret_int ?_, ?_, (Chg.of_keeps (Keeps.alloc _ _)).trans hM⟩
    · simp only [List.length_singleton]; omega
    · rw [List.take_of_length_le (by simp; omega)] at hR; exact hR
theorem push0_any {p b room hd : Nat} {xs : List El} {w W : World} (h : RingAt w p b room hd xs) (hfull : xs.length = room) (x : El) (sb : Nat) (hsb : sb = w.heap.size) (hW : W = w.alloc (.cells (xc x).toArray 114)) :
    Calls Tryd.prog 63 #[.pointer (some ⟨p, 0, none⟩), .slice (some ⟨sb, 0, none⟩) 1 1] W fun e w' => e = .returned (.int .i64 0) ∧ RingAt w' p b room hd xs ∧ Chg (fun k => k = p ∨ k = b) w w' := by
  subst hsb hW
  obtain ⟨hp, hb⟩ := h.lt
  have hn : SlcS 2 (w.alloc (.cells (xc x).toArray 114)) (.slice (some ⟨w.heap.size, 0, none⟩) 1 1) ([x].map xc) := slcs_one (Blk.new w 114 (xc x)) rfl
  refine (push_any (h.keeps (Keeps.alloc _ _)) hn (fun c e _ => ?_)).mono ?_
  · simp [Value.ownBlock] at e
    omega
  · rintro e w' ⟨rfl, hR, hM⟩
    refine ⟨ret_int ?_, ?_, (Chg.of_keeps (Keeps.alloc _ _)).trans hM⟩
    · simp only [hfull]; omega
    · rw [hfull, Nat.sub_self, List.take_zero, List.append_nil] at hR; exact hR
end Go.Proofs.YtefippjakkgjkaaDoor.K
