/- Arenas of things: find, Get, Set. -/
import Derived.Test.YtanidaepfepppaaDoorArT
import Derived.Test.YtanidaepfepppaaDoorMut
namespace Go.Proofs.YtanidaepfepppaaDoor.ArT
open Go.RowKit Go.Proofs.YtanidaepfepppaaDoor

theorem hasN_used {l : List (Slot El)} (i : Nat) (hi : i < l.length) (h64 : l.length ≤ 64) : hasN (usedM l) (i : Int) = l[i].used := by
  unfold hasN usedM
  rw [decide_eq_true (show (0 : Int) ≤ (i : Int) ∧ (i : Int) < 64 by omega), Bool.true_and, Int.toNat_natCast, testBit_wordB]
  simp [List.getD, hi]
/-- What a handle finds. -/
def findP (b : Nat) (l : List (Slot El)) (s g : Int) : Value := if findE l s g = 0 then .pointer (some ⟨b, s.toNat * 4, none⟩) else .pointer none
theorem findE_yes {l : List (Slot El)} {s g : Int} (h : findE l s g = 0) : ∃ k : Nat, s = k ∧ ∃ hk : k < l.length, l[k].used = true ∧ g = (l[k].gen : Int) := by
  unfold findE at h
  split at h
  · cases h
  · rename_i hr
    split at h
    · rename_i ha
      have hk : s.toNat < l.length := by omega
      rw [List.getElem?_eq_getElem hk] at ha
      simp only [Option.any_some, Bool.and_eq_true, decide_eq_true_eq] at ha
      exact ⟨s.toNat, by omega, hk, ha.1, ha.2.symm⟩
    · cases h
theorem findE_of {l : List (Slot El)} (k : Nat) (hk : k < l.length) (g : Int) : findE l (k : Int) g = if (l[k].used && decide ((l[k].gen : Int) = g)) = true then 0 else 7 := by
  unfold findE
  rw [if_neg (by omega), Int.toNat_natCast, List.getElem?_eq_getElem hk]
  rfl
theorem findE_cases (l : List (Slot El)) (s g : Int) : findE l s g = 0 ∨ findE l s g = 2 ∨ findE l s g = 7 := by
  unfold findE
  split
  · exact .inr (.inl rfl)
  · split
    · exact .inl rfl
    · exact .inr (.inr rfl)

set_option maxHeartbeats 400000 in
theorem find_nil (s g : Int) (w : World) : Calls Tryd.prog 32 #[.pointer none, .agg #[.int .i64 s, .int .i64 g]] w fun e w' => e = .returned (.tuple #[.pointer none, .int .i64 6]) ∧ Keeps w w' := by
  go_enter Tryd.func32, Tryd.ntmps32
  go_wp2
  go_ret2
  exact ⟨rfl, Keeps.alloc _ _⟩
set_option maxRecDepth 100000 in
set_option maxHeartbeats 1000000 in
theorem find_any {w : World} {p b : Nat} {l : List (Slot El)} (h : ArenaAt w p b l) (s g : Int) :
    Calls Tryd.prog 32 #[.pointer (some ⟨p, 0, none⟩), .agg #[.int .i64 s, .int .i64 g]] w fun e w' => e = .returned (.tuple #[findP b l s g, .int .i64 (findE l s g)]) ∧ Keeps w w' := by
  have hlt := h.hdr.lt
  have hblt := h.buf.lt
  have hcase : (s < 0 ∧ findE l s g = 2) ∨ (¬ s < 0 ∧ (l.length : Int) ≤ s ∧ findE l s g = 2) ∨ ∃ k : Nat, s = k ∧ ∃ hk : k < l.length, (l[k].used = false ∧ findE l s g = 7) ∨ (l[k].used = true ∧ l[k].gen ≤ 255 ∧ (l[k].gen : Int) ≠ g ∧ findE l s g = 7) ∨ (l[k].used = true ∧ l[k].gen ≤ 255 ∧ (l[k].gen : Int) = g ∧ findE l s g = 0) := by
    by_cases h1 : s < 0
    · left; refine ⟨h1, ?_⟩; unfold findE; rw [if_pos (.inl h1)]
    · by_cases h2 : (l.length : Int) ≤ s
      · right; left; refine ⟨h1, h2, ?_⟩; unfold findE; rw [if_pos (.inr h2)]
      · right; right
        refine ⟨s.toNat, by omega, by omega, ?_⟩
        have hk : s.toNat < l.length := by omega
        have hf := findE_of s.toNat hk g
        rw [show ((s.toNat : Nat) : Int) = s by omega] at hf
        cases hu : l[s.toNat].used with
        | false => left; rw [hu] at hf; exact ⟨rfl, hf⟩
        | true =>
          right
          have hg := h.ok.used _ (List.getElem_mem hk) hu
          rw [hu, Bool.true_and] at hf
          by_cases e : (l[s.toNat].gen : Int) = g
          · right; rw [if_pos (decide_eq_true e)] at hf; exact ⟨rfl, hg, e, hf⟩
          · left; rw [if_neg (by simpa using e)] at hf; exact ⟨rfl, hg, e, hf⟩
  unfold findP
  have hl64 := h.hi
  rcases hcase with ⟨h1, hE⟩ | ⟨h1, h2, hE⟩ | ⟨k, rfl, hk, hc⟩
  · have c0 := h.c0
    have hd : decide (s < 0) = true := decide_eq_true h1
    rw [hE]
    replace hE := Lib.hid hE
    clear h
    go_enter Tryd.func32, Tryd.ntmps32
    go_wp2_with fail
    go_quiet (fail)
    go_wp2_with fail
    go_ret2
    exact ⟨rfl, Keeps.trans (Keeps.alloc _ _) (Keeps.drewN _ _)⟩
  · have c0 := h.c0
    have hd : decide (s < 0) = false := decide_eq_false h1
    rw [hE]
    replace hE := Lib.hid hE
    clear h
    go_enter Tryd.func32, Tryd.ntmps32
    go_wp2_with fail
    go_quiet (fail)
    go_wp2_with fail
    go_ret2
    exact ⟨rfl, Keeps.trans (Keeps.alloc _ _) (Keeps.drewN _ _)⟩
  · have c0 := h.c0
    have c1 := h.c1
    have s0 := h.slot k hk 0 (by decide)
    have s1 := h.slot k hk 1 (by decide)
    have hhas := fun (W : World) => has_any (usedM l) (k : Int) W h.usedLt
    rw [hasN_used k hk hl64] at hhas
    have h1 : ¬ (k : Int) < 0 := by omega
    have hd : decide ((k : Int) < 0) = false := decide_eq_false h1
    have hk1 : (0 : Int) ≤ (k : Int) := by omega
    have hk2 : (k : Int) < (l.length : Int) := by omega
    have hk3 : ¬ (l.length : Int) ≤ (k : Int) := by omega
    simp only [slotEl, Nat.add_zero, List.cons_append, List.nil_append, List.getD_cons_zero, List.getD_cons_succ] at s0 s1
    rw [show ((min l[k].gen 255 : Nat) : Int) = (min l[k].gen 255 : Int) by omega] at s1
    rcases hc with ⟨hu, hE⟩ | ⟨hu, hg, hne, hE⟩ | ⟨hu, hg, hne, hE⟩
    · rw [hu] at hhas
      rw [hE]
      generalize usedM l = U at *
      generalize (min l[k].gen 255 : Int) = G at *
      replace hhas := Lib.hid hhas
      replace hE := Lib.hid hE
      replace hu := Lib.hid hu
      clear h
      go_enter Tryd.func32, Tryd.ntmps32
      go_wp2_with fail
      go_quiet (fail)
      go_upto_region 5 with (fail)
      refine wp_gen (fun W => Blk W w.heap.size 34 [.int .i64 k, .int .i64 g] ∧ Keeps w W) ⟨(Blk.new _ _ _).keeps (Keeps.drewN _ _), Keeps.trans (Keeps.alloc _ _) (Keeps.drewN _ _)⟩ ?_
      rintro W ⟨hB, hK⟩
      have d0 := (hK.cell (p := ⟨p, 0, none⟩) hlt).trans c0
      have d1 := (hK.cell (p := ⟨p, 1, none⟩) hlt).trans c1
      have t0 := (hK.cell (p := ⟨b, k * 4, none⟩) hblt).trans s0
      have t1 := (hK.cell (p := ⟨b, k * 4 + 1, none⟩) hblt).trans s1
      have b0 := hB.cell 0 (by simp)
      have b1 := hB.cell 1 (by simp)
      simp only [List.getElem_cons_zero, List.getElem_cons_succ] at b0 b1
      replace hK := Lib.hid hK
      clear c0 c1 s0 s1 hB
      go_quiet (with_reducible exact Go.Proofs.YtanidaepfepppaaDoor.Calls.quiet_same (hhas.out _))
      go_wp2_with fail
      go_ret2
      exact ⟨rfl, Keeps.trans hK.out (Keeps.drewN _ _)⟩
    · rw [hu] at hhas
      rw [hE]
      generalize usedM l = U at *
      rw [show (min l[k].gen 255 : Int) = (l[k].gen : Int) by omega] at s1
      have hne1 : ((l[k].gen : Int) == g) = false := by simpa using hne
      have hne2 : ((l[k].gen : Int) != g) = true := by simpa using hne
      generalize l[k].gen = G at *
      replace hhas := Lib.hid hhas
      replace hE := Lib.hid hE
      replace hu := Lib.hid hu
      clear h hne
      go_enter Tryd.func32, Tryd.ntmps32
      go_wp2_with fail
      go_quiet (fail)
      go_upto_region 5 with (fail)
      refine wp_gen (fun W => Blk W w.heap.size 34 [.int .i64 k, .int .i64 g] ∧ Keeps w W) ⟨(Blk.new _ _ _).keeps (Keeps.drewN _ _), Keeps.trans (Keeps.alloc _ _) (Keeps.drewN _ _)⟩ ?_
      rintro W ⟨hB, hK⟩
      have d0 := (hK.cell (p := ⟨p, 0, none⟩) hlt).trans c0
      have d1 := (hK.cell (p := ⟨p, 1, none⟩) hlt).trans c1
      have t0 := (hK.cell (p := ⟨b, k * 4, none⟩) hblt).trans s0
      have t1 := (hK.cell (p := ⟨b, k * 4 + 1, none⟩) hblt).trans s1
      have b0 := hB.cell 0 (by simp)
      have b1 := hB.cell 1 (by simp)
      simp only [List.getElem_cons_zero, List.getElem_cons_succ] at b0 b1
      replace hK := Lib.hid hK
      clear c0 c1 s0 s1 hB
      go_quiet (with_reducible exact Go.Proofs.YtanidaepfepppaaDoor.Calls.quiet_same (hhas.out _))
      go_wp2_with fail
      go_ret2
      exact ⟨rfl, Keeps.trans hK.out (Keeps.drewN _ _)⟩
    · rw [hu] at hhas
      rw [hE]
      generalize usedM l = U at *
      rw [show (min l[k].gen 255 : Int) = (l[k].gen : Int) by omega] at s1
      rw [hne] at s1
      replace hne := Lib.hid hne
      replace hhas := Lib.hid hhas
      replace hE := Lib.hid hE
      replace hu := Lib.hid hu
      clear h
      go_enter Tryd.func32, Tryd.ntmps32
      go_wp2_with fail
      go_quiet (fail)
      go_upto_region 5 with (fail)
      refine wp_gen (fun W => Blk W w.heap.size 34 [.int .i64 k, .int .i64 g] ∧ Keeps w W) ⟨(Blk.new _ _ _).keeps (Keeps.drewN _ _), Keeps.trans (Keeps.alloc _ _) (Keeps.drewN _ _)⟩ ?_
      rintro W ⟨hB, hK⟩
      have d0 := (hK.cell (p := ⟨p, 0, none⟩) hlt).trans c0
      have d1 := (hK.cell (p := ⟨p, 1, none⟩) hlt).trans c1
      have t0 := (hK.cell (p := ⟨b, k * 4, none⟩) hblt).trans s0
      have t1 := (hK.cell (p := ⟨b, k * 4 + 1, none⟩) hblt).trans s1
      have b0 := hB.cell 0 (by simp)
      have b1 := hB.cell 1 (by simp)
      simp only [List.getElem_cons_zero, List.getElem_cons_succ] at b0 b1
      replace hK := Lib.hid hK
      clear c0 c1 s0 s1 hB
      go_quiet (with_reducible exact Go.Proofs.YtanidaepfepppaaDoor.Calls.quiet_same (hhas.out _))
      go_wp2_with fail
      go_quiet (fail)
      go_wp2_with fail
      go_ret2
      exact ⟨rfl, Keeps.trans hK.out (Keeps.drewN _ _)⟩

/-- What a handle's thing is. -/
def getX (l : List (Slot El)) (s g : Int) : El := if findE l s g = 0 then ((l[s.toNat]?).map (·.x)).getD zEl else zEl
theorem sizeTh : (Tryd.prog.info? 29).map (·.size) = some 2 := by kernel_rfl
set_option maxRecDepth 100000 in
set_option maxHeartbeats 1000000 in
theorem get_any {w : World} {p b : Nat} {l : List (Slot El)} (h : ArenaAt w p b l) (s g : Int) :
    Calls Tryd.prog 12 #[.pointer (some ⟨p, 0, none⟩), .agg #[.int .i64 s, .int .i64 g]] w fun e w' => e = .returned (.tuple #[.agg (xCells (getX l s g)).toArray, .int .i64 (findE l s g)]) ∧ Keeps w w' := by
  have hf := fun (W : World) (hk : Keeps w W) => find_any (h.keeps hk) s g
  unfold findP at hf
  obtain ⟨R, eR⟩ : ∃ R, R = w.heap.size + 1 := ⟨_, rfl⟩
  have hB0 := (Blk.new w 34 [.int .i64 s, .int .i64 g]).alloc (.cells #[.int .i64 0, .string ⟨#[]⟩] 29)
  have hR0 : Blk ((w.alloc (.cells #[.int .i64 s, .int .i64 g] 34)).alloc (.cells #[.int .i64 0, .string ⟨#[]⟩] 29)) R 29 (xCells zEl) := Blk.at (by rw [World.size_alloc, eR]) rfl
  have hK0 := Keeps.trans (Keeps.alloc w (.cells #[.int .i64 s, .int .i64 g] 34)) (Keeps.alloc _ (.cells #[.int .i64 0, .string ⟨#[]⟩] 29))
  have hRn : w.heap.size ≤ R := by omega
  replace hB0 := Lib.hid hB0
  replace hR0 := Lib.hid hR0
  replace hK0 := Lib.hid hK0
  replace eR := Lib.hid eR
  replace hRn := Lib.hid hRn
  rcases findE_cases l s g with hE | hE | hE
  · simp only [hE, if_true] at hf
    obtain ⟨k, rfl, hk, hu, rfl⟩ := findE_yes hE
    have s2 := fun (W : World) (hK : Keeps w W) => (h.keeps hK).slot k hk 2 (by decide)
    have s3 := fun (W : World) (hK : Keeps w W) => (h.keeps hK).slot k hk 3 (by decide)
    have hx : getX l (k : Int) (l[k].gen : Int) = l[k].x := by
      unfold getX
      rw [if_pos hE, Int.toNat_natCast, List.getElem?_eq_getElem hk, Option.map_some, Option.getD_some]
    rw [hx, hE]
    simp only [slotEl, xCells, List.cons_append, List.nil_append, List.getD_cons_zero, List.getD_cons_succ] at s2 s3
    rw [Int.toNat_natCast] at hf
    generalize l[k].x = x at *
    generalize l[k].gen = G at *
    obtain ⟨xa, xs⟩ := x
    replace hf := Lib.hid hf
    replace s2 := Lib.hid s2
    replace s3 := Lib.hid s3
    replace hE := Lib.hid hE
    clear h hu hx
    go_enter Tryd.func12, Tryd.ntmps12
    go_upto_region 1 with (fail)
    rw [← eR.out]
    refine wp_gen (fun W => Blk W w.heap.size 34 [.int .i64 (k : Int), .int .i64 (G : Int)] ∧ Blk W R 29 (xCells zEl) ∧ Keeps w W) ⟨hB0.out, hR0.out, hK0.out⟩ ?_
    clear hB0 hR0 hK0 eR
    rintro W ⟨hB, hR, hK⟩
    have b0 := hB.cell 0 (by simp)
    have b1 := hB.cell 1 (by simp)
    simp only [List.getElem_cons_zero, List.getElem_cons_succ] at b0 b1
    have hf2 := hf.out W hK
    replace hf2 := Lib.hid hf2
    replace hR := Lib.hid hR
    replace hK := Lib.hid hK
    clear hB hf
    go_wp2_with fail
    refine hf2.out.mono ?_
    clear hf2 b0 b1
    rintro e W2 ⟨rfl, hK2⟩
    have hR2 := hR.out.keeps hK2
    have hK3 := hK.out.trans hK2
    have t2 := s2.out _ hK3
    have t3 := s3.out _ hK3
    have f0 := hR2.frozen 0
    have f1 := hR2.frozen 1
    have r0 := hR2.cell 0 (by simp [xCells])
    have r1 := hR2.cell 1 (by simp [xCells])
    simp only [xCells, List.getElem_cons_zero, List.getElem_cons_succ] at r0 r1
    have hS := (hR2.set 0 (.int .i64 xa)).set 1 (.string xs)
    have hKS := Chg.keeps (S := (· = R)) ((Chg.setCell (S := (· = R)) (w := W2) 0 (.int .i64 xa) rfl).trans (Chg.setCell (S := (· = R)) 1 (.string xs) rfl)) hK3 (fun j hj e => by have := hRn.out; omega)
    replace hS := Lib.hid hS
    replace hKS := Lib.hid hKS
    clear hR hK hK2 hK3 hR2
    go_wp2_with fail
    exact bodyPost_ret (results_row_slot (cs := [.int .i64 xa, .string xs]) rfl _ hS.out rfl _ Tryd.underlying29 rfl 2 sizeTh rfl) rfl ⟨rfl, hKS.out⟩
  all_goals
    have hx : getX l s g = zEl := by
      unfold getX
      rw [if_neg (by rw [hE]; decide)]
    rw [hx]
    simp only [hE] at hf
    rw [if_neg (by decide)] at hf
    rw [hE]
    replace hf := Lib.hid hf
    replace hE := Lib.hid hE
    clear h hx
    go_enter Tryd.func12, Tryd.ntmps12
    go_upto_region 1 with (fail)
    rw [← eR.out]
    refine wp_gen (fun W => Blk W w.heap.size 34 [.int .i64 s, .int .i64 g] ∧ Blk W R 29 (xCells zEl) ∧ Keeps w W) ⟨hB0.out, hR0.out, hK0.out⟩ ?_
    clear hB0 hR0 hK0 eR
    rintro W ⟨hB, hR, hK⟩
    have b0 := hB.cell 0 (by simp)
    have b1 := hB.cell 1 (by simp)
    simp only [List.getElem_cons_zero, List.getElem_cons_succ] at b0 b1
    have hf2 := hf.out W hK
    replace hf2 := Lib.hid hf2
    replace hR := Lib.hid hR
    replace hK := Lib.hid hK
    clear hB hf
    go_wp2_with fail
    refine hf2.out.mono ?_
    clear hf2 b0 b1
    rintro e W2 ⟨rfl, hK2⟩
    have hKn := Keeps.alloc W2 (.cells #[.int .i64 0, .string ⟨#[]⟩] 29)
    have hR1 := hR.out.keeps hK2
    have hRlt := hR1.lt
    have hN2 : Blk (W2.alloc (.cells #[.int .i64 0, .string ⟨#[]⟩] 29)) W2.heap.size 29 (xCells zEl) := Blk.new W2 _ _
    obtain ⟨N, eN⟩ : ∃ N, N = W2.heap.size := ⟨_, rfl⟩
    have hNR : N ≠ R := by omega
    rw [← eN] at hN2
    have hR2 := hR1.keeps hKn
    have hK3 := (hK.out.trans hK2).trans hKn
    replace eN := Lib.hid eN
    replace hN2 := Lib.hid hN2
    replace hR2 := Lib.hid hR2
    replace hK3 := Lib.hid hK3
    clear hR hR1 hK hK2 hKn hRlt
    go_upto_region 4 with (fail)
    rw [← eN.out]
    refine wp_gen (fun W => Blk W R 29 (xCells zEl) ∧ Blk W N 29 (xCells zEl) ∧ Keeps w W) ⟨hR2.out, hN2.out, hK3.out⟩ ?_
    clear hR2 hN2 hK3 eN
    rintro W3 ⟨hR3, hN3, hK3⟩
    have f0 := hR3.frozen 0
    have f1 := hR3.frozen 1
    have r0 := hR3.cell 0 (by simp [xCells])
    have r1 := hR3.cell 1 (by simp [xCells])
    have m0 := hN3.cell 0 (by simp [xCells])
    have m1 := hN3.cell 1 (by simp [xCells])
    simp only [xCells, zEl, List.getElem_cons_zero, List.getElem_cons_succ] at r0 r1 m0 m1
    have hS := (hR3.set 0 (.int .i64 0)).set 1 (.string ByteArray.empty)
    have hKS := Chg.keeps (S := (· = R)) ((Chg.setCell (S := (· = R)) (w := W3) 0 (.int .i64 0) rfl).trans (Chg.setCell (S := (· = R)) 1 (.string ByteArray.empty) rfl)) hK3 (fun j hj e => by have := hRn.out; omega)
    replace hS := Lib.hid hS
    replace hKS := Lib.hid hKS
    clear hR3 hN3 hK3
    go_wp2_with fail
    exact bodyPost_ret (results_row_slot (cs := [.int .i64 0, .string ByteArray.empty]) rfl _ hS.out rfl _ Tryd.underlying29 rfl 2 sizeTh rfl) rfl ⟨rfl, hKS.out⟩
end Go.Proofs.YtanidaepfepppaaDoor.ArT
