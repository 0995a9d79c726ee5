/- Arenas of integers: find, Get, Set. -/
import Derived.Test.YtanidaepfepppaaDoorArI
import Derived.Test.YtanidaepfepppaaDoorMut
namespace Go.Proofs.YtanidaepfepppaaDoor.ArI
open Go.RowKit Go.Proofs.YtanidaepfepppaaDoor

theorem hasN_used {l : List (Slot El)} (i : Nat) (hi : i < l.length) (h64 : l.length ≤ 64) : hasN (usedM l) (i : Int) = l[i].used := by
  unfold hasN usedM
  rw [decide_eq_true (show (0 : Int) ≤ (i : Int) ∧ (i : Int) < 64 by omega), Bool.true_and, Int.toNat_natCast, testBit_wordB]
  simp [List.getD, hi]
/-- What a handle finds. -/
def findP (b : Nat) (l : List (Slot El)) (s g : Int) : Value := if findE l s g = 0 then .pointer (some ⟨b, s.toNat * 3, none⟩) else .pointer none
theorem findE_yes {l : List (Slot El)} {s g : Int} (h : findE l s g = 0) : ∃ k : Nat, s = k ∧ ∃ hk : k < l.length, l[k].used = true ∧ g = (l[k].gen : Int) := by
  unfold findE at h
  split at h
  · cases h
  · rename_i hr
    split at h
    · rename_i ha
      have hk : s.toNat < l.length := by omega
      rw [List.getElem?_eq_getElem hk] at ha
      simp only [Option.any_some, Bool.and_eq_true, decide_eq_true_eq] at ha
      exact ⟨s.toNat, by omega, hk, ha.1, ha.2.symm⟩
    · cases h
theorem findE_of {l : List (Slot El)} (k : Nat) (hk : k < l.length) (g : Int) : findE l (k : Int) g = if (l[k].used && decide ((l[k].gen : Int) = g)) = true then 0 else 7 := by
  unfold findE
  rw [if_neg (by omega), Int.toNat_natCast, List.getElem?_eq_getElem hk]
  rfl
theorem findE_cases (l : List (Slot El)) (s g : Int) : findE l s g = 0 ∨ findE l s g = 2 ∨ findE l s g = 7 := by
  unfold findE
  split
  · exact .inr (.inl rfl)
  · split
    · exact .inl rfl
    · exact .inr (.inr rfl)

set_option maxHeartbeats 400000 in
theorem find_nil (s g : Int) (w : World) : Calls Tryd.prog 34 #[.pointer none, .agg #[.int .i64 s, .int .i64 g]] w fun e w' => e = .returned (.tuple #[.pointer none, .int .i64 6]) ∧ Keeps w w' := by
  go_enter Tryd.func34, Tryd.ntmps34
  go_wp2
  go_ret2
  exact ⟨rfl, Keeps.alloc _ _⟩
set_option maxRecDepth 100000 in
set_option maxHeartbeats 1000000 in
theorem find_any {w : World} {p b : Nat} {l : List (Slot El)} (h : ArenaAt w p b l) (s g : Int) :
    Calls Tryd.prog 34 #[.pointer (some ⟨p, 0, none⟩), .agg #[.int .i64 s, .int .i64 g]] w fun e w' => e = .returned (.tuple #[findP b l s g, .int .i64 (findE l s g)]) ∧ Keeps w w' := by
  have hlt := h.hdr.lt
  have hblt := h.buf.lt
  have hcase : (s < 0 ∧ findE l s g = 2) ∨ (¬ s < 0 ∧ (l.length : Int) ≤ s ∧ findE l s g = 2) ∨ ∃ k : Nat, s = k ∧ ∃ hk : k < l.length, (l[k].used = false ∧ findE l s g = 7) ∨ (l[k].used = true ∧ l[k].gen ≤ 255 ∧ (l[k].gen : Int) ≠ g ∧ findE l s g = 7) ∨ (l[k].used = true ∧ l[k].gen ≤ 255 ∧ (l[k].gen : Int) = g ∧ findE l s g = 0) := by
    by_cases h1 : s < 0
    · left; refine ⟨h1, ?_⟩; unfold findE; rw [if_pos (.inl h1)]
    · by_cases h2 : (l.length : Int) ≤ s
      · right; left; refine ⟨h1, h2, ?_⟩; unfold findE; rw [if_pos (.inr h2)]
      · right; right
        refine ⟨s.toNat, by omega, by omega, ?_⟩
        have hk : s.toNat < l.length := by omega
        have hf := findE_of s.toNat hk g
        rw [show ((s.toNat : Nat) : Int) = s by omega] at hf
        cases hu : l[s.toNat].used with
        | false => left; rw [hu] at hf; exact ⟨rfl, hf⟩
        | true =>
          right
          have hg := h.ok.used _ (List.getElem_mem hk) hu
          rw [hu, Bool.true_and] at hf
          by_cases e : (l[s.toNat].gen : Int) = g
          · right; rw [if_pos (decide_eq_true e)] at hf; exact ⟨rfl, hg, e, hf⟩
          · left; rw [if_neg (by simpa using e)] at hf; exact ⟨rfl, hg, e, hf⟩
  unfold findP
  have hl64 := h.hi
  rcases hcase with ⟨h1, hE⟩ | ⟨h1, h2, hE⟩ | ⟨k, rfl, hk, hc⟩
  · have c0 := h.c0
    have hd : decide (s < 0) = true := decide_eq_true h1
    rw [hE]
    replace hE := Lib.hid hE
    clear h
    go_enter Tryd.func34, Tryd.ntmps34
    go_wp2_with fail
    go_quiet (fail)
    go_wp2_with fail
    go_ret2
    exact ⟨rfl, Keeps.trans (Keeps.alloc _ _) (Keeps.drewN _ _)⟩
  · have c0 := h.c0
    have hd : decide (s < 0) = false := decide_eq_false h1
    rw [hE]
    replace hE := Lib.hid hE
    clear h
    go_enter Tryd.func34, Tryd.ntmps34
    go_wp2_with fail
    go_quiet (fail)
    go_wp2_with fail
    go_ret2
    exact ⟨rfl, Keeps.trans (Keeps.alloc _ _) (Keeps.drewN _ _)⟩
  · have c0 := h.c0
    have c1 := h.c1
    have s0 := h.slot k hk 0 (by decide)
    have s1 := h.slot k hk 1 (by decide)
    have hhas := fun (W : World) => has_any (usedM l) (k : Int) W h.usedLt
    rw [hasN_used k hk hl64] at hhas
    have h1 : ¬ (k : Int) < 0 := by omega
    have hd : decide ((k : Int) < 0) = false := decide_eq_false h1
    have hk1 : (0 : Int) ≤ (k : Int) := by omega
    have hk2 : (k : Int) < (l.length : Int) := by omega
    have hk3 : ¬ (l.length : Int) ≤ (k : Int) := by omega
    simp only [slotEl, Nat.add_zero, List.cons_append, List.nil_append, List.getD_cons_zero, List.getD_cons_succ] at s0 s1
    rw [show ((min l[k].gen 255 : Nat) : Int) = (min l[k].gen 255 : Int) by omega] at s1
    rcases hc with ⟨hu, hE⟩ | ⟨hu, hg, hne, hE⟩ | ⟨hu, hg, hne, hE⟩
    · rw [hu] at hhas
      rw [hE]
      generalize usedM l = U at *
      generalize (min l[k].gen 255 : Int) = G at *
      replace hhas := Lib.hid hhas
      replace hE := Lib.hid hE
      replace hu := Lib.hid hu
      clear h
      go_enter Tryd.func34, Tryd.ntmps34
      go_wp2_with fail
      go_quiet (fail)
      go_upto_region 5 with (fail)
      refine wp_gen (fun W => Blk W w.heap.size 34 [.int .i64 k, .int .i64 g] ∧ Keeps w W) ⟨(Blk.new _ _ _).keeps (Keeps.drewN _ _), Keeps.trans (Keeps.alloc _ _) (Keeps.drewN _ _)⟩ ?_
      rintro W ⟨hB, hK⟩
      have d0 := (hK.cell (p := ⟨p, 0, none⟩) hlt).trans c0
      have d1 := (hK.cell (p := ⟨p, 1, none⟩) hlt).trans c1
      have t0 := (hK.cell (p := ⟨b, k * 3, none⟩) hblt).trans s0
      have t1 := (hK.cell (p := ⟨b, k * 3 + 1, none⟩) hblt).trans s1
      have b0 := hB.cell 0 (by simp)
      have b1 := hB.cell 1 (by simp)
      simp only [List.getElem_cons_zero, List.getElem_cons_succ] at b0 b1
      replace hK := Lib.hid hK
      clear c0 c1 s0 s1 hB
      go_quiet (with_reducible exact Go.Proofs.YtanidaepfepppaaDoor.Calls.quiet_same (hhas.out _))
      go_wp2_with fail
      go_ret2
      exact ⟨rfl, Keeps.trans hK.out (Keeps.drewN _ _)⟩
    · rw [hu] at hhas
      rw [hE]
      generalize usedM l = U at *
      rw [show (min l[k].gen 255 : Int) = (l[k].gen : Int) by omega] at s1
      have hne1 : ((l[k].gen : Int) == g) = false := by simpa using hne
      have hne2 : ((l[k].gen : Int) != g) = true := by simpa using hne
      generalize l[k].gen = G at *
      replace hhas := Lib.hid hhas
      replace hE := Lib.hid hE
      replace hu := Lib.hid hu
      clear h hne
      go_enter Tryd.func34, Tryd.ntmps34
      go_wp2_with fail
      go_quiet (fail)
      go_upto_region 5 with (fail)
      refine wp_gen (fun W => Blk W w.heap.size 34 [.int .i64 k, .int .i64 g] ∧ Keeps w W) ⟨(Blk.new _ _ _).keeps (Keeps.drewN _ _), Keeps.trans (Keeps.alloc _ _) (Keeps.drewN _ _)⟩ ?_
      rintro W ⟨hB, hK⟩
      have d0 := (hK.cell (p := ⟨p, 0, none⟩) hlt).trans c0
      have d1 := (hK.cell (p := ⟨p, 1, none⟩) hlt).trans c1
      have t0 := (hK.cell (p := ⟨b, k * 3, none⟩) hblt).trans s0
      have t1 := (hK.cell (p := ⟨b, k * 3 + 1, none⟩) hblt).trans s1
      have b0 := hB.cell 0 (by simp)
      have b1 := hB.cell 1 (by simp)
      simp only [List.getElem_cons_zero, List.getElem_cons_succ] at b0 b1
      replace hK := Lib.hid hK
      clear c0 c1 s0 s1 hB
      go_quiet (with_reducible exact Go.Proofs.YtanidaepfepppaaDoor.Calls.quiet_same (hhas.out _))
      go_wp2_with fail
      go_ret2
      exact ⟨rfl, Keeps.trans hK.out (Keeps.drewN _ _)⟩
    · rw [hu] at hhas
      rw [hE]
      generalize usedM l = U at *
      rw [show (min l[k].gen 255 : Int) = (l[k].gen : Int) by omega] at s1
      rw [hne] at s1
      replace hne := Lib.hid hne
      replace hhas := Lib.hid hhas
      replace hE := Lib.hid hE
      replace hu := Lib.hid hu
      clear h
      go_enter Tryd.func34, Tryd.ntmps34
      go_wp2_with fail
      go_quiet (fail)
      go_upto_region 5 with (fail)
      refine wp_gen (fun W => Blk W w.heap.size 34 [.int .i64 k, .int .i64 g] ∧ Keeps w W) ⟨(Blk.new _ _ _).keeps (Keeps.drewN _ _), Keeps.trans (Keeps.alloc _ _) (Keeps.drewN _ _)⟩ ?_
      rintro W ⟨hB, hK⟩
      have d0 := (hK.cell (p := ⟨p, 0, none⟩) hlt).trans c0
      have d1 := (hK.cell (p := ⟨p, 1, none⟩) hlt).trans c1
      have t0 := (hK.cell (p := ⟨b, k * 3, none⟩) hblt).trans s0
      have t1 := (hK.cell (p := ⟨b, k * 3 + 1, none⟩) hblt).trans s1
      have b0 := hB.cell 0 (by simp)
      have b1 := hB.cell 1 (by simp)
      simp only [List.getElem_cons_zero, List.getElem_cons_succ] at b0 b1
      replace hK := Lib.hid hK
      clear c0 c1 s0 s1 hB
      go_quiet (with_reducible exact Go.Proofs.YtanidaepfepppaaDoor.Calls.quiet_same (hhas.out _))
      go_wp2_with fail
      go_quiet (fail)
      go_wp2_with fail
      go_ret2
      exact ⟨rfl, Keeps.trans hK.out (Keeps.drewN _ _)⟩

set_option maxHeartbeats 400000 in
theorem get_nil (s g : Int) (w : World) : Calls Tryd.prog 24 #[.pointer none, .agg #[.int .i64 s, .int .i64 g]] w fun e w' => e = .returned (.tuple #[.int .i64 0, .int .i64 6]) ∧ Keeps w w' := by
  go_enter Tryd.func24, Tryd.ntmps24
  go_wp2_with fail
  refine (find_nil s g _).mono ?_
  rintro e w' ⟨rfl, hK⟩
  go_wp2_with fail
  go_ret2
  exact ⟨rfl, Keeps.trans (Keeps.alloc _ _) hK⟩
/-- What a handle's thing is. -/
def getX (l : List (Slot El)) (s g : Int) : El := if findE l s g = 0 then ((l[s.toNat]?).map (·.x)).getD zEl else zEl
set_option maxRecDepth 100000 in
set_option maxHeartbeats 1000000 in
theorem get_any {w : World} {p b : Nat} {l : List (Slot El)} (h : ArenaAt w p b l) (s g : Int) :
    Calls Tryd.prog 24 #[.pointer (some ⟨p, 0, none⟩), .agg #[.int .i64 s, .int .i64 g]] w fun e w' => e = .returned (.tuple #[.int .i64 (getX l s g), .int .i64 (findE l s g)]) ∧ Keeps w w' := by
  have hf := fun (W : World) (hk : Keeps w W) => find_any (h.keeps hk) s g
  unfold findP at hf
  unfold getX
  rcases findE_cases l s g with hE | hE | hE
  · rw [if_pos hE]
    simp only [hE, if_true] at hf
    obtain ⟨k, rfl, hk, hu, rfl⟩ := findE_yes hE
    have s2 := fun (W : World) (hK : Keeps w W) => (h.keeps hK).slot k hk 2 (by decide)
    simp only [slotEl, xCells, List.cons_append, List.nil_append, List.getD_cons_zero, List.getD_cons_succ] at s2
    rw [Int.toNat_natCast, List.getElem?_eq_getElem hk, Option.map_some, Option.getD_some, hE]
    rw [Int.toNat_natCast] at hf
    generalize l[k].x = x at *
    generalize l[k].gen = G at *
    replace hf := Lib.hid hf
    replace s2 := Lib.hid s2
    skip
    replace hE := Lib.hid hE
    clear h hu
    go_enter Tryd.func24, Tryd.ntmps24
    go_wp2_with fail
    refine (hf.out _ (Keeps.alloc _ _)).mono ?_
    rintro e w' ⟨rfl, hK⟩
    have t2 := s2.out _ (Keeps.trans (Keeps.alloc _ _) hK)
    skip
    replace hK := Lib.hid (Keeps.trans (Keeps.alloc _ _) hK)
    go_wp2_with fail
    go_ret2
    exact ⟨rfl, hK.out⟩
  all_goals
    rw [if_neg (by rw [hE]; decide)]
    simp only [hE] at hf
    rw [if_neg (by decide)] at hf
    rw [hE]
    replace hf := Lib.hid hf
    replace hE := Lib.hid hE
    clear h
    go_enter Tryd.func24, Tryd.ntmps24
    go_wp2_with fail
    refine (hf.out _ (Keeps.alloc _ _)).mono ?_
    rintro e w' ⟨rfl, hK⟩
    go_wp2_with fail
    go_ret2
    exact ⟨rfl, Keeps.trans (Keeps.alloc _ _) hK⟩
end Go.Proofs.YtanidaepfepppaaDoor.ArI
