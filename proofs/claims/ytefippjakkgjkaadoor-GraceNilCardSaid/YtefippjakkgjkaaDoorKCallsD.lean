/- The walks of package calls: Close. -/
import Derived.Test.YtefippjakkgjkaaDoorKCallsC
namespace Go.Proofs.YtefippjakkgjkaaDoor.K
open Go.RowKit

/-- A generation for one that has none. -/
def clo (g : Int) (c : Cl) : Cl := if c.2 = 0 then (c.1, g) else c
abbrev cloFn (B : Nat) : Value := .func (.func 81) #[] #[.pointer (some ⟨B, 0, none⟩)]
set_option maxHeartbeats 1000000 in
theorem cloFn_any (a b g : Int) (B : Nat) (w : World) (hB : w.cell? ⟨B, 0, none⟩ = some (.int .i64 g)) :
    Calls Tryd.prog 81 #[.agg #[.int .i64 a, .int .i64 b], .pointer (some ⟨B, 0, none⟩)] w fun e w' => e = .returned (.agg #[.int .i64 (clo g (a, b)).1, .int .i64 (clo g (a, b)).2]) ∧ Keeps w w' := by
  have hlt : B < w.heap.size := cell_lt hB
  obtain ⟨B0, hB0⟩ : ∃ B0, B0 = w.heap.size := ⟨_, rfl⟩
  have hall : ∀ W, Keeps w W → W.cell? ⟨B, 0, none⟩ = some (.int .i64 g) := fun W hk => (hk.cell (p := ⟨B, 0, none⟩) hlt).trans hB
  replace hall := Lib.hid hall
  by_cases hb : b = 0
  · have hbb : (b == 0) = true := by simpa using hb
    have e : clo g (a, b) = (a, g) := by unfold clo; rw [if_pos hb]
    rw [e]
    replace e := Lib.hid e
    replace hb := Lib.hid hb
    go_enter Tryd.func81, Tryd.ntmps81
    go_upto_region 1 with (fail)
    rw [← hB0]
    refine wp_gen (fun W => Blk W B0 114 [.int .i64 a, .int .i64 b] ∧ Blk W (B0 + 1) 114 (xc (0, 0)) ∧ Keeps w W) ⟨(Blk.at hB0 rfl).alloc _, Blk.at (by rw [World.size_alloc, hB0]) rfl, Keeps.trans (Keeps.alloc _ _) (Keeps.alloc _ _)⟩ ?_
    rintro W ⟨hA, hR, hK⟩
    have x0 := hA.cell 0 (by simp)
    have x1 := hA.cell 1 (by simp)
    have f1 := hA.frozen 1
    have r0 := hR.cell 0 (by simp [xc])
    have r1 := hR.cell 1 (by simp [xc])
    have q0 := hR.frozen 0
    have q1 := hR.frozen 1
    have cB := hall.out W hK
    simp only [xc, List.getElem_cons_zero, List.getElem_cons_succ] at x0 x1 r0 r1
    have hBne : B ≠ B0 := by omega
    replace hA := Lib.hid hA
    replace hR := Lib.hid hR
    replace hK := Lib.hid hK
    replace hB0 := Lib.hid hB0
    clear hB hall
    go_wp2_with fail
    refine bodyPost_ret (results_row (cs := xc (a, g)) rfl _ (((hR.out.other (by omega) 1 _).set 0 _).set 1 _) rfl _ Tryd.underlying114 rfl 2 sizeE rfl) rfl ⟨rfl, ?_⟩
    exact ((((Chg.of_keeps (S := fun _ => False) hK.out).newCell (Nat.le_of_eq hB0.out.symm) _ _).newCell (by rw [hB0.out]; omega) _ _).newCell (by rw [hB0.out]; omega) _ _).keeps_new (fun _ _ h => h)
  · have hbb : (b == 0) = false := by simpa using hb
    have e : clo g (a, b) = (a, b) := by unfold clo; rw [if_neg hb]
    rw [e]
    replace e := Lib.hid e
    replace hb := Lib.hid hb
    go_enter Tryd.func81, Tryd.ntmps81
    go_upto_region 1 with (fail)
    rw [← hB0]
    refine wp_gen (fun W => Blk W B0 114 [.int .i64 a, .int .i64 b] ∧ Blk W (B0 + 1) 114 (xc (0, 0)) ∧ Keeps w W) ⟨(Blk.at hB0 rfl).alloc _, Blk.at (by rw [World.size_alloc, hB0]) rfl, Keeps.trans (Keeps.alloc _ _) (Keeps.alloc _ _)⟩ ?_
    rintro W ⟨hA, hR, hK⟩
    have x0 := hA.cell 0 (by simp)
    have x1 := hA.cell 1 (by simp)
    have r0 := hR.cell 0 (by simp [xc])
    have r1 := hR.cell 1 (by simp [xc])
    have q0 := hR.frozen 0
    have q1 := hR.frozen 1
    simp only [xc, List.getElem_cons_zero, List.getElem_cons_succ] at x0 x1 r0 r1
    replace hA := Lib.hid hA
    replace hR := Lib.hid hR
    replace hK := Lib.hid hK
    replace hB0 := Lib.hid hB0
    clear hB hall
    go_wp2_with fail
    refine bodyPost_ret (results_row (cs := xc (a, b)) rfl _ ((hR.out.set 0 _).set 1 _) rfl _ Tryd.underlying114 rfl 2 sizeE rfl) rfl ⟨rfl, ?_⟩
    exact ((((Chg.of_keeps (S := fun _ => False) hK.out).newCell (by rw [hB0.out]; omega) _ _).newCell (by rw [hB0.out]; omega) _ _)).keeps_new (fun _ _ h => h)
/-- A ring of which k are turned. -/
def trn (g : Int) (xs : List Cl) (k : Nat) : List Cl := xs.drop k ++ (xs.take k).map (clo g)
theorem trn_zero (g : Int) (xs : List Cl) : trn g xs 0 = xs := by simp [trn]
theorem trn_all (g : Int) (xs : List Cl) : trn g xs xs.length = xs.map (clo g) := by simp [trn]
theorem trn_len (g : Int) (xs : List Cl) (k : Nat) (h : k ≤ xs.length) : (trn g xs k).length = xs.length := by simp [trn]; omega
theorem trn_step (g : Int) (xs : List Cl) (k : Nat) (h : k < xs.length) : trn g xs k = xs[k] :: (xs.drop (k + 1) ++ (xs.take k).map (clo g)) ∧ (xs.drop (k + 1) ++ (xs.take k).map (clo g)) ++ [clo g xs[k]] = trn g xs (k + 1) := by
  constructor
  · rw [trn, List.drop_eq_getElem_cons h]; rfl
  · rw [trn, List.take_succ_eq_append_getElem h, List.map_append, List.append_assoc]; rfl
set_option maxRecDepth 100000 in
set_option maxHeartbeats 2000000 in
theorem turn_any {w : World} {p b hd : Nat} {xs : List Cl} (hR : RingAt w p b 64 hd xs) (g : Int) (hg : 1 ≤ g) (B : Nat) (hB : w.cell? ⟨B, 0, none⟩ = some (.int .i64 g)) (hBp : B ≠ p ∧ B ≠ b) :
    Calls Tryd.prog 80 #[.pointer (some ⟨p, 0, none⟩), cloFn B] w fun e w' => e = .returned (.int .i64 (openC xs : Nat)) ∧ (∃ hd, RingAt w' p b 64 hd (xs.map (clo g))) ∧ Chg (fun k => k = p ∨ k = b) w w' := by
  have hlen := len_any hR
  have hx64 := hR.len
  have hx0 : (0 : Int) ≤ xs.length := by omega
  have hBl : B < w.heap.size := cell_lt hB
  have hg1 : ((0 : Int) == g) = false := by rw [beq_eq_false_iff_ne]; omega
  have hg2 : decide ((0 : Int) = g) = false := by simp; omega
  replace hlen := Lib.hid hlen
  replace hR := Lib.hid hR
  replace hB := Lib.hid hB
  go_enter Tryd.func80, Tryd.ntmps80
  go_wp2_with fail
  refine hlen.out.mono ?_
  rintro e w1 ⟨rfl, rfl⟩
  go_wp2_with fail
  go_loopw [5, 11] (fun t i wr => ∃ (k hd : Nat), k ≤ xs.length ∧ i = .int .i64 k ∧ t = .int .i64 (openC (xs.take k) : Nat) ∧ RingAt wr p b 64 hd (trn g xs k) ∧ Chg (fun k => k = p ∨ k = b) w wr) (fun _ i _ => xs.length - (intOf i).toNat)
  case atStart => exact ⟨0, _, Nat.zero_le _, rfl, rfl, by rw [trn_zero]; exact hR.out, Chg.refl _ _⟩
  case round =>
    clear hR hlen
    obtain ⟨k, hd, hk, rfl, rfl, hR, hC⟩ := hrel
    have hkl : k < xs.length ∨ k = xs.length := by omega
    rcases hkl with hlt | rfl
    · have hltI := Int.ofNat_lt.2 hlt
      obtain ⟨s1, s2⟩ := trn_step g xs k hlt
      have hYl : (xs.drop (k + 1) ++ (xs.take k).map (clo g)).length < 64 := by simp; omega
      rw [s1] at hR
      have hs := openC_succ xs k hlt
      have hob : openC (xs.take k) ≤ k := by unfold openC; exact Nat.le_trans (List.length_filter_le _ _) (by rw [List.length_take]; omega)
      generalize xs.drop (k + 1) ++ (xs.take k).map (clo g) = Y at *
      generalize openC (xs.take k) = T at *
      generalize xs[k] = c at *
      obtain ⟨a, bg⟩ := c
      have hpop := pop_yes hR
      replace hs := Lib.hid hs
      replace s2 := Lib.hid s2
      replace hpop := Lib.hid hpop
      replace hC := Lib.hid hC
      clear s1 hR
      go_wp2_with fail
      refine hpop.out.mono ?_
      rintro e w2 ⟨rfl, hR2, hC2⟩
      have hC3 := hC.out.trans hC2
      obtain ⟨B6, hB6⟩ : ∃ B6, B6 = w2.heap.size := ⟨_, rfl⟩
      have hlt2 := hR2.lt
      replace hR2 := Lib.hid hR2
      replace hC3 := Lib.hid hC3
      clear hC2 hC hpop
      go_upto_region 5 with (fail)
      rw [← hB6]
      refine wp_gen (fun W => Blk W B6 114 [.int .i64 a, .int .i64 bg] ∧ Keeps w2 W) ⟨Blk.at hB6 rfl, Keeps.alloc _ _⟩ ?_
      rintro W ⟨hA, hK⟩
      have hBW : W.cell? ⟨B, 0, none⟩ = some (.int .i64 g) := (hK.cell (p := ⟨B, 0, none⟩) (Nat.lt_of_lt_of_le hBl hC3.out.size)).trans ((hC3.out.cell'' (p := ⟨B, 0, none⟩) hBl (by simp only; omega)).trans hB.out)
      have hcf := cloFn_any a bg g B W hBW
      have x0 := hA.cell 0 (by simp)
      have x1 := hA.cell 1 (by simp)
      simp only [List.getElem_cons_zero, List.getElem_cons_succ] at x0 x1
      replace hcf := Lib.hid hcf
      replace hA := Lib.hid hA
      replace hK := Lib.hid hK
      have hB6l : B6 = w2.heap.size := hB6
      replace hB6 := Lib.hid hB6
      have hpb6 : B6 ≠ p ∧ B6 ≠ b ∧ B6 + 1 ≠ p ∧ B6 + 1 ≠ b := by omega
      replace hB6l := Lib.hid hB6l
      clear hBW
      go_wp2_with fail
      refine hcf.out.mono ?_
      rintro e w4 ⟨rfl, hK4⟩
      have hA4 := hA.out.keeps hK4
      have hK5 := Keeps.trans hK.out hK4
      have hR4 := hR2.out.keeps hK5
      have hC4 := hC3.out.trans (Chg.of_keeps hK5)
      have hAl := hA4.lt
      generalize hd' : clo g (a, bg) = d at *
      obtain ⟨d0, d1⟩ := d
      obtain ⟨B8, hB8⟩ : ∃ B8, B8 = w4.heap.size := ⟨_, rfl⟩
      replace hA4 := Lib.hid hA4
      replace hR4 := Lib.hid hR4
      replace hC4 := Lib.hid hC4
      clear hA hK hK4 hK5 hR2 hC3 hcf x0 x1
      go_upto_region 6 with (fail)
      rw [← hB8]
      refine wp_gen (fun W => Blk W B6 114 [.int .i64 a, .int .i64 bg] ∧ Blk W B8 114 (xc (d0, d1)) ∧ (∃ hd, RingAt W p b 64 hd Y) ∧ Chg (fun k => k = p ∨ k = b) w W) ⟨hA4.out.alloc _, Blk.at hB8 rfl, ⟨_, hR4.out.keeps (Keeps.alloc _ _)⟩, hC4.out.trans (Chg.of_keeps (Keeps.alloc _ _))⟩ ?_
      rintro W6 ⟨hA6, hD6, ⟨hd6, hR6⟩, hC6⟩
      have hpush := push1_any hR6 hYl (d0, d1) W6.heap.size rfl rfl
      have hB8p : B8 ≠ p ∧ B8 ≠ b := by have := hR4.out.lt; omega
      have y0 := hD6.cell 0 (by simp [xc])
      have y1 := hD6.cell 1 (by simp [xc])
      simp only [xc, List.getElem_cons_zero, List.getElem_cons_succ] at y0 y1
      replace hpush := Lib.hid hpush
      replace hA6 := Lib.hid hA6
      replace hD6 := Lib.hid hD6
      replace hC6 := Lib.hid hC6
      clear hA4 hR4 hC4 hR6 hB8
      go_wp2_with fail
      refine hpush.out.mono ?_
      rintro e w7 ⟨rfl, hR7, hC7⟩
      have hA7 := hA6.out.chg hC7 (by omega)
      have hD7 := hD6.out.chg hC7 (by omega)
      have z0 := hA7.cell 0 (by simp)
      have z1 := hA7.cell 1 (by simp)
      have y0 := hD7.cell 0 (by simp [xc])
      have y1 := hD7.cell 1 (by simp [xc])
      simp only [xc, List.getElem_cons_zero, List.getElem_cons_succ] at y0 y1 z0 z1
      have hC8 := hC6.out.trans hC7
      replace hR7 := Lib.hid hR7
      replace hC8 := Lib.hid hC8
      clear hA6 hD6 hC6 hC7 hpush hA7 hD7
      by_cases hb : bg = 0
      · have e2 : (d0, d1) = (a, g) := by rw [← hd']; unfold clo; rw [if_pos hb]
        obtain ⟨rfl, rfl⟩ : d0 = a ∧ d1 = g := by simpa using e2
        subst hb
        have hs' := hs.out
        simp only [if_true] at hs'
        replace hs' := Lib.hid hs'
        replace hd' := Lib.hid hd'
        clear e2 hs
        go_wp2_with fail
        go_roundw
        case rel => exact ⟨k + 1, hd6, by omega, by go_num, by rw [hs'.out]; go_num, by rw [← s2.out]; exact hR7.out, hC8.out⟩
        case measure => (simp [intOf]; try omega)
      · have e2 : (d0, d1) = (a, bg) := by rw [← hd']; unfold clo; rw [if_neg hb]
        obtain ⟨rfl, rfl⟩ : d0 = a ∧ d1 = bg := by simpa using e2
        have hs' := hs.out
        simp only [if_neg hb, Nat.add_zero] at hs'
        replace hs' := Lib.hid hs'
        replace hd' := Lib.hid hd'
        replace hb := Lib.hid hb
        clear e2 hs
        go_wp2_with fail
        go_roundw
        case rel => exact ⟨k + 1, hd6, by omega, by go_num, by rw [hs'.out], by rw [← s2.out]; exact hR7.out, hC8.out⟩
        case measure => (simp [intOf]; try omega)
    · have hall := trn_all g xs
      rw [hall] at hR
      rw [List.take_of_length_le (Nat.le_refl _)]
      replace hR := Lib.hid hR
      replace hC := Lib.hid hC
      clear hall
      go_wp2_with fail
      go_ret
      exact ⟨rfl, ⟨_, hR.out⟩, hC.out⟩
/-! ### Close -/
/-- What is closed: of all rings. -/
def closeL (g : Int) (R : List (List Cl)) : List (List Cl) := R.map fun xs => xs.map (clo g)
set_option maxRecDepth 100000 in
set_option maxHeartbeats 1000000 in
theorem lclose_nil (g : Int) (w : World) : Calls Tryd.prog 66 #[.pointer none, .int .i64 g] w fun e w' => e = .returned (.int .i64 0) ∧ Keeps w w' := by
  go_enter Tryd.func66, Tryd.ntmps66
  go_wp2_with fail
  go_quiet (fail)
  rename_i nq
  go_wp2_with fail
  go_ret
  exact ⟨rfl, Keeps.trans (Keeps.alloc _ _) (Keeps.drewN _ _)⟩
/-- Rings of which k are closed. -/
def cloTo (g : Int) (R : List (List Cl)) (k : Nat) : List (List Cl) := (R.take k).map (fun xs => xs.map (clo g)) ++ R.drop k
theorem cloTo_zero (g : Int) (R : List (List Cl)) : cloTo g R 0 = R := by simp [cloTo]
theorem cloTo_all (g : Int) (R : List (List Cl)) : cloTo g R R.length = closeL g R := by simp [cloTo, closeL]
theorem cloTo_len (g : Int) (R : List (List Cl)) (k : Nat) (h : k ≤ R.length) : (cloTo g R k).length = R.length := by simp [cloTo]; omega
theorem cloTo_get (g : Int) (R : List (List Cl)) (k : Nat) (h : k < R.length) : (cloTo g R k).getD k [] = R.getD k [] := by
  unfold cloTo
  rw [List.getD, List.getElem?_append_right (by simp; omega), List.getElem?_drop]
  simp [List.getD, Nat.min_eq_left (Nat.le_of_lt h)]
theorem cloTo_set (g : Int) (R : List (List Cl)) (k : Nat) (h : k < R.length) : (cloTo g R k).set k ((R.getD k []).map (clo g)) = cloTo g R (k + 1) := by
  unfold cloTo
  have e : k - ((R.take k).map fun xs => xs.map (clo g)).length = 0 := by simp; omega
  rw [show R.getD k [] = R[k] by simp [List.getD, h], List.set_append_right _ _ (by simp; omega), e, List.drop_eq_getElem_cons h, List.set_cons_zero, List.take_succ_eq_append_getElem h, List.map_append, List.append_assoc]
  rfl
section
variable {w : World} {p rb cap n : Nat} {pp bb : Nat → Nat} {last : Int} {R : List (List Cl)}
set_option maxRecDepth 100000 in
set_option maxHeartbeats 1000000 in
theorem lclose_no (h : ListsAt w p rb cap n pp bb last R) (g : Int) (hg : g < 1 ∨ g < last) : Calls Tryd.prog 66 #[.pointer (some ⟨p, 0, none⟩), .int .i64 g] w fun e w' => e = .returned (.int .i64 0) ∧ Keeps w w' := by
  have hc1 := fun (W : World) (hk : Keeps w W) => (h.keeps hk).c1
  have hcase : (g < 1 ∧ decide (g < 1) = true) ∨ (¬ g < 1 ∧ decide (g < 1) = false ∧ decide (g < last) = true) := by
    by_cases h1 : g < 1
    · exact .inl ⟨h1, by simpa using h1⟩
    · exact .inr ⟨h1, by simpa using h1, by simp; omega⟩
  replace hc1 := Lib.hid hc1
  clear h hg
  obtain ⟨B0, hB0⟩ : ∃ B0, B0 = w.heap.size := ⟨_, rfl⟩
  rcases hcase with ⟨h1, e1⟩ | ⟨h1, e1, e2⟩
  all_goals
    go_enter Tryd.func66, Tryd.ntmps66
    go_upto_region 1 with (fail)
    rw [← hB0]
    refine wp_gen (fun W => W.cell? ⟨B0, 0, none⟩ = some (.int .i64 g) ∧ Keeps w W) ⟨(Blk.at (t := 3) (cs := [.int .i64 g]) hB0 rfl).cell 0 (by simp), Keeps.alloc _ _⟩ ?_
    rintro W ⟨x0, hK⟩
    have c1 := hc1.out W hK
    replace hK := Lib.hid hK
    replace hB0 := Lib.hid hB0
    go_quiet (fail)
    rename_i nq
    go_wp2_with fail
    go_ret
    exact ⟨rfl, Keeps.trans hK.out (Keeps.drewN _ _)⟩
theorem openC_append (l l' : List Cl) : openC (l ++ l') = openC l + openC l' := by unfold openC; rw [List.filter_append, List.length_append]
set_option maxRecDepth 100000 in
set_option maxHeartbeats 2000000 in
theorem lclose_any (h : ListsAt w p rb cap n pp bb last R) (g : Int) (h1 : 1 ≤ g) (h2 : last ≤ g) : Calls Tryd.prog 66 #[.pointer (some ⟨p, 0, none⟩), .int .i64 g] w fun e w' => e = .returned (.int .i64 (openC R.flatten : Nat)) ∧ ListsAt w' p rb cap n pp bb g (closeL g R) ∧ Chg (Foot p rb n pp bb) w w' := by
  have hall := fun (W : World) (hk : Keeps w W) => h.keeps hk
  have hRl := h.len
  have hn64 := h.n64
  have hnc := h.hn
  have hncap := h.hcap
  have hfl := h.foot_lt
  have hpl := h.hdr.lt
  unfold maxLen at hncap
  have e1 : decide (g < 1) = false := by simp; omega
  have e2 : decide (g < last) = false := by simp; omega
  have h1' : ¬ g < 1 := by omega
  have hr64 : ∀ i, (R.getD i []).length ≤ 64 := fun i => by
    by_cases hi : i < n
    · obtain ⟨hd, hR⟩ := h.ring i hi; exact hR.len
    · simp [List.getD, show R.length ≤ i by omega]
  have hle := flat_le R (fun i _ => hr64 i)
  have hoc : ∀ l : List Cl, openC l ≤ l.length := fun l => by unfold openC; exact List.length_filter_le _ _
  have hft := fun k (hk : k < n) => flat_take R k (by omega)
  replace hall := Lib.hid hall
  replace hRl := Lib.hid hRl
  replace hfl := Lib.hid hfl
  replace hle := Lib.hid hle
  replace hoc := Lib.hid hoc
  replace hft := Lib.hid hft
  replace hr64 := Lib.hid hr64
  clear h
  obtain ⟨B0, hB0⟩ : ∃ B0, B0 = w.heap.size := ⟨_, rfl⟩
  go_enter Tryd.func66, Tryd.ntmps66
  go_upto_region 1 with (fail)
  rw [← hB0]
  refine wp_gen (fun W => Blk W B0 3 [.int .i64 g] ∧ Keeps w W) ⟨Blk.at hB0 rfl, Keeps.alloc _ _⟩ ?_
  rintro W ⟨hX, hK⟩
  have x0 := hX.cell 0 (by simp)
  simp only [List.getElem_cons_zero] at x0
  have c1 := (hall.out W hK).c1
  have hBF : ¬ Foot p rb n pp bb B0 := fun hf => by have := hfl.out _ hf; omega
  have hB0p : p ≠ B0 := by omega
  replace hBF := Lib.hid hBF
  replace hK := Lib.hid hK
  replace hX := Lib.hid hX
  replace hB0 := Lib.hid hB0
  go_quiet (fail)
  rename_i nq
  have hLq := hall.out _ (Keeps.trans hK.out (Keeps.drewN W nq))
  have hXq := hX.out.keeps (Keeps.drewN W nq)
  have hL1 := hLq.setLast g
  have hX1 := hXq.other hB0p.symm 1 (.int .i64 g)
  have hC1 : Chg (Foot p rb n pp bb) w ((W.drewN nq).setCell ⟨p, 1, none⟩ (.int .i64 g)) := (Chg.of_keeps (Keeps.trans hK.out (Keeps.drewN W nq))).trans (Chg.setCell _ _ (.inl rfl))
  have f1 := hLq.hdr.frozen 1
  have d0 := hL1.c0
  replace hL1 := Lib.hid hL1
  replace hX1 := Lib.hid hX1
  replace hC1 := Lib.hid hC1
  clear hLq hXq hX hK hall
  go_upto_region 5 with (fail)
  refine wp_gen (fun W => ListsAt W p rb cap n pp bb g R ∧ Blk W B0 3 [.int .i64 g] ∧ Chg (Foot p rb n pp bb) w W) ⟨hL1.out, hX1.out, hC1.out⟩ ?_
  clear hL1 hX1 hC1 d0 f1 c1 x0
  rintro W2 ⟨hL2, hX2, hC2⟩
  have d0 := hL2.c0
  replace hL2 := Lib.hid hL2
  replace hX2 := Lib.hid hX2
  replace hC2 := Lib.hid hC2
  go_wp2_with fail
  go_loopw [5, 31] (fun t i wr => ∃ k : Nat, k ≤ n ∧ i = .int .i64 k ∧ t = .int .i64 (openC (R.take k).flatten : Nat) ∧ ListsAt wr p rb cap n pp bb g (cloTo g R k) ∧ Blk wr B0 3 [.int .i64 g] ∧ Chg (Foot p rb n pp bb) w wr) (fun _ i _ => n - (intOf i).toNat)
  case atStart => exact ⟨0, Nat.zero_le _, rfl, by rw [List.take_zero]; rfl, by rw [cloTo_zero]; exact hL2.out, hX2.out, hC2.out⟩
  case round =>
    clear hL2 hX2 hC2 d0
    obtain ⟨k, hk, rfl, rfl, hL, hX, hC⟩ := hrel
    have hkn : k < n ∨ k = n := by omega
    rcases hkn with hlt | rfl
    · have hltI := Int.ofNat_lt.2 hlt
      have hRk : k < R.length := by have := hRl.out; omega
      have cp := hL.ptr k hlt
      obtain ⟨hd, hR⟩ := hL.ring k hlt
      rw [cloTo_get g R k hRk] at hR
      have xB := hX.cell 0 (by simp)
      simp only [List.getElem_cons_zero] at xB
      have hsep : B0 ≠ pp k ∧ B0 ≠ bb k := ⟨fun e => hBF.out (.inr (.inr ⟨k, hlt, .inl e⟩)), fun e => hBF.out (.inr (.inr ⟨k, hlt, .inr e⟩))⟩
      have htn := turn_any hR g h1 B0 xB hsep
      have hset := cloTo_set g R k hRk
      have ho := openC_append (R.take k).flatten (R.getD k [])
      rw [← hft.out k hlt] at ho
      have hb1 : openC (R.take k).flatten ≤ 64 * 64 := Nat.le_trans (hoc.out _) (Nat.le_trans (hle.out k (by omega)) (Nat.mul_le_mul_left _ (by omega)))
      have hb2 : openC (R.getD k []) ≤ 64 := Nat.le_trans (hoc.out _) (hr64.out k)
      generalize openC (R.take k).flatten = T at *
      generalize openC (R.getD k []) = U at *
      generalize (R.getD k []).map (clo g) = Y at *
      replace htn := Lib.hid htn
      replace hset := Lib.hid hset
      replace ho := Lib.hid ho
      replace hL := Lib.hid hL
      replace hX := Lib.hid hX
      replace hC := Lib.hid hC
      clear hR xB
      go_wp2_with fail
      refine htn.out.mono ?_
      rintro e w4 ⟨rfl, ⟨hd4, hR4⟩, hC4⟩
      have hL4 := hL.out.set hlt hR4 hC4
      rw [hset.out] at hL4
      have hX4 := hX.out.chg hC4 (by omega)
      have hC5 := hC.out.trans (Chg.toFoot (p := p) (rb := rb) hlt hC4)
      replace hL4 := Lib.hid hL4
      replace hX4 := Lib.hid hX4
      replace hC5 := Lib.hid hC5
      clear hR4 hC4 hL hX hC htn
      go_wp2_with fail
      go_roundw
      case rel => exact ⟨k + 1, by omega, by go_num, by rw [ho.out]; go_num, hL4.out, hX4.out, hC5.out⟩
      case measure => (simp [intOf]; try omega)
    · have hall := cloTo_all g R
      rw [hRl.out] at hall
      rw [hall] at hL
      have ht : R.take k = R := List.take_of_length_le (by have := hRl.out; omega)
      rw [ht]
      replace hL := Lib.hid hL
      replace hC := Lib.hid hC
      clear hX hall ht
      go_wp2_with fail
      go_ret
      exact ⟨rfl, hL.out, hC.out⟩
end
end Go.Proofs.YtefippjakkgjkaaDoor.K
