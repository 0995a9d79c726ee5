/- The law GuardPlays: what its walk comes to. -/
import Derived.Test.YtmjknhjlhnljpaaGuardF
import Derived.Test.YtmjknhjlhnljpaaLaw23c
import Derived.Deep.DeepCutAuto
namespace Go.Proofs.Ytmjknhjlhnljpaa
open Go.RowKit Go.Shelf

/-- A slice of calls: whether out, the CPU, the program. -/
def Acts (W : World) (v : Value) (acts : List (Bool × Int × Int)) : Prop := ∃ p cap, v = .slice p acts.length cap ∧ acts.length ≤ cap ∧ cap ≤ 9223372036854775807 ∧
  ∀ i, (h : i < acts.length) → ∃ c off, p = some ⟨c, off, none⟩ ∧ W.cell? ⟨c, off + i * 3, none⟩ = some (.bool acts[i].1) ∧ W.cell? ⟨c, off + i * 3 + 1, none⟩ = some (.int .i64 acts[i].2.1) ∧ W.cell? ⟨c, off + i * 3 + 2, none⟩ = some (.int .i64 acts[i].2.2)

theorem Mut.chg {p b : Nat} {w w' : World} (h : Mut p b w w') : Chg (fun k => k = p ∨ k = b) w w' := ⟨h.os, h.tape, h.output, h.size, fun k hk hn => h.block k hk (fun e => hn (.inl e)) (fun e => hn (.inr e))⟩

/-- What holds between two calls: u is the reference's list, in block q. -/
structure Inv (w : World) (p b q M k : Nat) (l : List (Int × Int)) (cs : List Nat) (u : Value) (W : World) : Prop where
  left : Left p b M l cs W
  blk : Blk W q 31 (gCells M u cs)
  prs : Pairs W u l
  sep : ∀ c, u.ownBlock = some c → c ≠ p ∧ c ≠ b ∧ c ≠ q
  len : l.length ≤ k
  keeps : Keeps w W
theorem Left.keeps {p b M : Nat} {l : List (Int × Int)} {cs : List Nat} {w w' : World} (h : Left p b M l cs w) (hk : Keeps w w') : Left p b M l cs w' := by
  obtain ⟨ms, h1, h2, h3⟩ := h
  exact ⟨ms, h1.keeps hk, h2, h3⟩
theorem Left.cs {p b M : Nat} {l : List (Int × Int)} {cs : List Nat} {w : World} (h : Left p b M l cs w) : cs.length = 16 ∧ ∀ c ∈ cs, c ≤ 255 := by
  obtain ⟨ms, h1, _, _⟩ := h
  exact ⟨h1.len, h1.counts⟩
theorem Left.lt {p b M : Nat} {l : List (Int × Int)} {cs : List Nat} {w : World} (h : Left p b M l cs w) : p < w.heap.size ∧ b < w.heap.size := by
  obtain ⟨ms, h1, _, _⟩ := h
  exact h1.lt
theorem Inv.kept {w : World} {p b q M k : Nat} {l : List (Int × Int)} {cs : List Nat} {u : Value} {W W' : World} (h : Inv w p b q M k l cs u W) (hk : Keeps W W') : Inv w p b q M k l cs u W' :=
  ⟨h.left.keeps hk, h.blk.keeps hk, Slc_pairs h.prs hk, h.sep, h.len, Keeps.trans h.keeps hk⟩
theorem Inv.more {w : World} {p b q M k : Nat} {l : List (Int × Int)} {cs : List Nat} {u : Value} {W : World} (h : Inv w p b q M k l cs u W) : Inv w p b q M (k + 1) l cs u W :=
  ⟨h.left, h.blk, h.prs, h.sep, Nat.le_succ_of_le h.len, h.keeps⟩
/-- Behind a call of both: the reference's answer has been stored. -/
theorem Inv.next {w : World} {p b q M k : Nat} {l l2 : List (Int × Int)} {cs cs2 : List Nat} {u u2 : Value} {W W2 W3 W4 : World} (h : Inv w p b q M k l cs u W) (hpq : q ≠ p ∧ q ≠ b) (hp : w.heap.size ≤ p) (hb : w.heap.size ≤ b) (hq : w.heap.size ≤ q)
    (hK2 : Keeps W W2) (hP2 : Pairs W2 u2 l2) (hU2 : u2 = u ∨ ∀ c, u2.ownBlock = some c → W.heap.size ≤ c) (hK3 : Keeps W2 W3) (hM : Mut p b W3 W4) (hL : Left p b M l2 cs2 W4) (hl : l2.length ≤ k + 1) :
    Inv w p b q M (k + 1) l2 cs2 u2 (W4.setRow q (gCells M u2 cs2).toArray) := by
  have hlt := h.left.lt
  have hqlt := h.blk.lt
  have hsep : ∀ c, u2.ownBlock = some c → c ≠ p ∧ c ≠ b ∧ c ≠ q := by
    rcases hU2 with rfl | hU
    · exact h.sep
    · intro c hc; have := hU c hc; omega
  have hK4 : Keeps w W4 := Chg.keeps hM.chg (Keeps.trans h.keeps (Keeps.trans hK2 hK3)) (fun k hk => by omega)
  have hB4 : Blk W4 q 31 (gCells M u cs) := ((h.blk.keeps hK2).keeps hK3).chg hM.chg (by omega)
  have hset : Chg (fun k => k = q) W4 (W4.setRow q (gCells M u2 cs2).toArray) := Chg.setRow _ rfl
  refine ⟨?_, hB4.setRow _, ?_, hsep, hl, Chg.keeps hset hK4 (fun k hk => by omega)⟩
  · obtain ⟨ms, h1, h2, h3⟩ := hL
    exact ⟨ms, ⟨h1.ne, h1.hdr.chg hset (by omega), h1.buf.chg hset (by omega), h1.lo, h1.hi, h1.words, h1.len, h1.counts⟩, h2, h3⟩
  · exact SlcS.chg (SlcS.chg (Slc_pairs hP2 hK3) hM.chg (fun c hc => by have := hsep c hc; omega)) hset (fun c hc => by have := hsep c hc; omega)

set_option maxRecDepth 100000 in
set_option maxHeartbeats 4000000 in
theorem lawPlays23_any (cpus : Int) (v : Value) (acts : List (Bool × Int × Int)) (w : World) (hv : Acts w v acts) :
    Calls Try.prog 3 #[.int .i64 cpus, v] w fun e w' => e = .returned (.bool true) ∧ Keeps w w' := by
  obtain ⟨ap, acap, rfl, hl, hc, hcell⟩ := hv
  by_cases hr : cpus < 1 ∨ 64 < cpus
  · have hnew := gnew_no cpus w hr
    clear hcell
    have hcase : cpus < 1 ∨ (¬ cpus < 1 ∧ 64 < cpus) := by omega
    clear hr
    rcases hcase with h1 | ⟨h1, h2⟩
    all_goals
      go_enter Try.func3, Try.ntmps3
      go_wp2_with fail
      refine hnew.mono ?_
      rintro e w1 ⟨rfl, rfl⟩
      go_wp2_with fail
      refine (known23_any _).mono ?_
      rintro e w2 ⟨rfl, hK2⟩
      go_wp2_with fail
      go_ret
      exact ⟨rfl, hK2⟩
  · obtain ⟨M, rfl⟩ : ∃ M : Nat, cpus = M := ⟨cpus.toNat, by omega⟩
    have hr1 : 1 ≤ M := by omega
    have hr2 : M ≤ 64 := by omega
    have hnew := gnew_yes M w hr1 hr2
    replace hnew := Lib.hid hnew
    replace hcell := Lib.hid hcell
    clear hr
    have hn1 : ¬ (M : Int) < 1 := by omega
    have hn2 : ¬ 64 < (M : Int) := by omega
    go_enter Try.func3, Try.ntmps3
    go_wp2_with fail
    refine hnew.out.mono ?_
    rintro e w1 ⟨rfl, hG, hKw⟩
    obtain ⟨p, hpe⟩ : ∃ p, p = w.heap.size + 1 := ⟨_, rfl⟩
    obtain ⟨b, hbe⟩ : ∃ b, b = w.heap.size := ⟨_, rfl⟩
    have hpl : w.heap.size ≤ p := by omega
    have hbl : w.heap.size ≤ b := by omega
    rw [← hpe, ← hbe] at hG
    rw [← hpe]
    clear hpe hbe hnew
    have hq0 := hG.lt
    have hql := hKw.size
    obtain ⟨q, hqe⟩ : ∃ q, q = w1.heap.size := ⟨_, rfl⟩
    have hpq : q ≠ p ∧ q ≠ b := by omega
    have hqw : w.heap.size ≤ q := by omega
    have hI : ∀ W, Keeps w1 W → Blk W q 31 (gCells M (.slice none 0 0) (List.replicate 16 0)) → Inv w p b q M 0 [] (List.replicate 16 0) (.slice none 0 0) W := fun W hk hb =>
      ⟨⟨_, hG.keeps hk, RelG.init M, by simp⟩, hb, SlcS.nil 2 W, fun c hc => (by simp [Value.ownBlock] at hc), Nat.le_refl _, Keeps.trans hKw hk⟩
    replace hI := Lib.hid hI
    clear hG hq0 hql
    replace hKw := Lib.hid hKw
    have hz := Blk.at (W := w1) (t := 31) (cs := gCells 0 (.slice none 0 0) (List.replicate 16 0)) (arr := (gCells 0 (.slice none 0 0) (List.replicate 16 0)).toArray) rfl rfl
    replace hz := Lib.hid hz
    replace hqe := Lib.hid hqe
    go_wp2_with (refine storeG (cpus := (M : Int)) (v := .slice none 0 0) (ms := List.replicate 16 0) hz.out rfl rfl rfl rfl _ _ rfl rfl rfl rfl ?_)
    rw [← hqe.out]
    go_loopw [8] (fun i wr => ∃ (k : Nat) (l : List (Int × Int)) (cs : List Nat) (u : Value), k ≤ acts.length ∧ k ≤ 60 ∧ i = .int .i64 k ∧ Inv w p b q M k l cs u wr) (fun i _ => acts.length - (intOf i).toNat)
    case atStart => exact ⟨0, _, _, _, Nat.zero_le _, Nat.zero_le _, rfl, hI.out _ (Chg.keeps_new (S := fun k => k = w1.heap.size) ((Chg.of_keeps (Keeps.alloc _ _)).trans (Chg.setRow _ hqe.out)) (fun k hk => by omega)) (by rw [hqe.out]; exact hz.out.setRow _)⟩
    case round =>
      clear hI hqe hKw
      obtain ⟨k, l, cs, u, hk, hk60, rfl, hI⟩ := hrel
      replace hI := Lib.hid hI
      by_cases hlt : k < acts.length
      · by_cases h60 : k < 60
        · obtain ⟨ac, aoff, rfl, c0, c1, c2⟩ := hcell.out k hlt
          have d0 := (hI.out.keeps.cell (p := ⟨ac, aoff + k * 3, none⟩) (cell_lt c0)).trans c0
          have d1 := (hI.out.keeps.cell (p := ⟨ac, aoff + k * 3 + 1, none⟩) (cell_lt c1)).trans c1
          have d2 := (hI.out.keeps.cell (p := ⟨ac, aoff + k * 3 + 2, none⟩) (cell_lt c2)).trans c2
          generalize acts[k].1 = o at *
          generalize acts[k].2.1 = c at *
          generalize acts[k].2.2 = n at *
          clear c0 c1 c2
          have hwlt := hI.out.left.lt
          have hwq := hI.out.blk.lt
          go_upto_if 57 with fail
          go_cut [] (fun wx => ∃ (l : List (Int × Int)) (cs : List Nat) (u : Value), Inv w p b q M (k + 1) l cs u wx ∧ Blk wx wr.heap.size 33 [.bool o, .int .i64 c, .int .i64 n])
          case first =>
            refine wp_gen (fun W => Inv w p b q M k l cs u W ∧ Blk W wr.heap.size 33 [.bool o, .int .i64 c, .int .i64 n]) ⟨hI.out.kept (Keeps.alloc _ _), Blk.new _ _ _⟩ ?_
            clear hI d0 d1 d2
            rintro W ⟨hI, hA⟩
            have hL := hI.left
            have hlen := hL.cs
            have hlt := hI.left.lt
            have hqlt := hI.blk.lt
            have hAlt := hA.lt
            have hc1 := hA.cell 1 (by simp)
            have hc2 := hA.cell 2 (by simp)
            simp only [List.getElem_cons_succ, List.getElem_cons_zero] at hc1 hc2
            have hll : l.length ≤ 1000 := by have := hI.len; omega
            cases o with
            | false =>
              have href := refEnter_all M u cs l c n W hI.prs hlen.1 hlen.2 hll
              replace hlen := Lib.hid hlen
              replace href := Lib.hid href
              replace hI := Lib.hid hI
              replace hL := Lib.hid hL
              replace hA := Lib.hid hA
              go_wp2_with (refine loadG hI.out.blk hlen.out.1 rfl _ rfl rfl ?_)
              refine href.out.mono ?_
              rintro e W2 ⟨u2, rfl, hP2, hU2, hK2⟩
              have hl2 := Nat.le_trans (entL_len M l c n) (Nat.succ_le_succ hI.out.len)
              have hlen2 : (entC M l cs c n).length = 16 := by
                unfold entC
                split
                · exact hlen.out.1
                · split
                  · rw [missN_len]; exact hlen.out.1
                  · exact hlen.out.1
              obtain ⟨ms, hG, hR, hM⟩ := hL.out
              have hent := fun (W3 : World) (hk : Keeps W W3) => enter_all (hG.keeps hk) hR c n
              rw [hM] at hent
              generalize entL M l c n = l2 at *
              generalize entC M l cs c n = cs2 at *
              generalize entE M l c n = E at *
              have hu1 := hP2.one
              have hz := Blk.at (W := W2) (t := 31) (cs := gCells 0 (.slice none 0 0) (List.replicate 16 0)) (arr := (gCells 0 (.slice none 0 0) (List.replicate 16 0)).toArray) rfl rfl
              have hz2 := hz.setRow (gCells M u2 cs2)
              have hK3 : Keeps W2 ((W2.alloc (.cells (gCells 0 (.slice none 0 0) (List.replicate 16 0)).toArray 31)).setRow W2.heap.size (gCells M u2 cs2).toArray) := Chg.keeps_new (S := fun k => k = W2.heap.size) ((Chg.of_keeps (Keeps.alloc _ _)).trans (Chg.setRow _ rfl)) (fun k hk => by omega)
              replace hz := Lib.hid hz
              replace hz2 := Lib.hid hz2
              replace hP2 := Lib.hid hP2
              replace hU2 := Lib.hid hU2
              replace hK2 := Lib.hid hK2
              replace hK3 := Lib.hid hK3
              replace hent := Lib.hid hent
              replace hu1 := Lib.hid hu1
              replace hlen2 := Lib.hid hlen2
              replace hl2 := Lib.hid hl2
              clear hG hR hc1 hc2
              go_upto_region 18 with (refine storeG (cpus := (M : Int)) (v := u2) (ms := cs2) hz.out rfl hlen2.out hu1.out rfl _ _ rfl rfl rfl rfl ?_)
              refine wp_gen (fun W3 => Keeps W2 W3 ∧ Blk W3 W2.heap.size 31 (gCells M u2 cs2)) ⟨hK3.out, hz2.out⟩ ?_
              clear hK3 hz2 hz
              rintro W3 ⟨hK3, hN⟩
              have hA3 := (hA.out.keeps hK2.out).keeps hK3
              have hc1 := hA3.cell 1 (by simp)
              have hc2 := hA3.cell 2 (by simp)
              simp only [List.getElem_cons_succ, List.getElem_cons_zero] at hc1 hc2
              replace hK3 := Lib.hid hK3
              replace hN := Lib.hid hN
              replace hA3 := Lib.hid hA3
              go_wp2_with fail
              refine (hent.out W3 (Keeps.trans hK2.out hK3.out)).mono ?_
              rintro e W4 ⟨rfl, hL4, hM4⟩
              have hs2 := hK2.out.size
              have hN4 := hN.out.chg hM4.chg (by omega)
              have hQ4 := ((hI.out.blk.keeps hK2.out).keeps hK3.out).chg hM4.chg (by omega)
              have hA4 := (hA3.out.chg hM4.chg (by omega)).otherRow (b' := q) (by omega) (gCells M u2 cs2).toArray
              have hfin := hI.out.next hpq hpl hbl hqw hK2.out hP2.out hU2.out hK3.out hM4 hL4 hl2.out
              replace hN4 := Lib.hid hN4
              replace hQ4 := Lib.hid hQ4
              replace hA4 := Lib.hid hA4
              replace hfin := Lib.hid hfin
              clear hL4 hM4 hc1 hc2
              go_wp2_with (first | (refine loadG hN4.out hlen2.out rfl _ rfl rfl ?_) | (refine storeG (cpus := (M : Int)) (v := u2) (ms := cs2) hQ4.out hlen.out.1 hlen2.out hu1.out rfl _ _ rfl rfl rfl rfl ?_))
              go_meet
              exact ⟨l2, cs2, u2, hfin.out, hA4.out⟩
            | true =>
              have href := refExit_all M u cs l c n W hI.prs hlen.1 hll
              replace hlen := Lib.hid hlen
              replace href := Lib.hid href
              replace hI := Lib.hid hI
              replace hL := Lib.hid hL
              replace hA := Lib.hid hA
              go_wp2_with (refine loadG hI.out.blk hlen.out.1 rfl _ rfl rfl ?_)
              refine href.out.mono ?_
              rintro e W2 ⟨u2, rfl, hP2, hU2, hK2⟩
              have hl2 := Nat.le_succ_of_le (Nat.le_trans (exiL_len l c n) hI.out.len)
              obtain ⟨ms, hG, hR, hM⟩ := hL.out
              have hent := fun (W3 : World) (hk : Keeps W W3) => exit_all (hG.keeps (Keeps.trans hk (Keeps.alloc W3 (.cells #[.int .i64 n, .int .i64 n] 3)))) hR c n _ (ints_at W3 3 [n, n] _ rfl (by simp [maxLen]))
              rw [hM] at hent
              generalize exiL l c n = l2 at *
              have hu1 := hP2.one
              have hz := Blk.at (W := W2) (t := 31) (cs := gCells 0 (.slice none 0 0) (List.replicate 16 0)) (arr := (gCells 0 (.slice none 0 0) (List.replicate 16 0)).toArray) rfl rfl
              have hz2 := hz.setRow (gCells M u2 cs)
              have hK3 : Keeps W2 ((W2.alloc (.cells (gCells 0 (.slice none 0 0) (List.replicate 16 0)).toArray 31)).setRow W2.heap.size (gCells M u2 cs).toArray) := Chg.keeps_new (S := fun k => k = W2.heap.size) ((Chg.of_keeps (Keeps.alloc _ _)).trans (Chg.setRow _ rfl)) (fun k hk => by omega)
              replace hz := Lib.hid hz
              replace hz2 := Lib.hid hz2
              replace hP2 := Lib.hid hP2
              replace hU2 := Lib.hid hU2
              replace hK2 := Lib.hid hK2
              replace hK3 := Lib.hid hK3
              replace hent := Lib.hid hent
              replace hu1 := Lib.hid hu1
              replace hl2 := Lib.hid hl2
              clear hG hR hc1 hc2
              go_upto_region 13 with (refine storeG (cpus := (M : Int)) (v := u2) (ms := cs) hz.out rfl hlen.out.1 hu1.out rfl _ _ rfl rfl rfl rfl ?_)
              refine wp_gen (fun W3 => Keeps W2 W3 ∧ Blk W3 W2.heap.size 31 (gCells M u2 cs)) ⟨hK3.out, hz2.out⟩ ?_
              clear hK3 hz2 hz
              rintro W3 ⟨hK3, hN⟩
              have hA3 := (hA.out.keeps hK2.out).keeps hK3
              have hc1 := hA3.cell 1 (by simp)
              have hc2 := hA3.cell 2 (by simp)
              simp only [List.getElem_cons_succ, List.getElem_cons_zero] at hc1 hc2
              replace hK3 := Lib.hid hK3
              replace hN := Lib.hid hN
              replace hA3 := Lib.hid hA3
              have hwas : (if (c, n) ∈ l then (1 : Int) else 0) = 1 ∧ decide ((c, n) ∈ l) = true ∨ (if (c, n) ∈ l then (1 : Int) else 0) = 0 ∧ decide ((c, n) ∈ l) = false := by
                by_cases hmem : (c, n) ∈ l
                · exact .inl ⟨if_pos hmem, decide_eq_true hmem⟩
                · exact .inr ⟨if_neg hmem, decide_eq_false hmem⟩
              generalize (if (c, n) ∈ l then (1 : Int) else 0) = N at *
              generalize decide ((c, n) ∈ l) = B at *
              rcases hwas with ⟨rfl, rfl⟩ | ⟨rfl, rfl⟩
              all_goals
                go_wp2_with fail
                refine (hent.out W3 (Keeps.trans hK2.out hK3.out)).mono ?_
                rintro e W4 ⟨rfl, hL4, hM4⟩
                have hs2 := hK2.out.size
                have hs3 := hK3.out.size
                have hKA := Keeps.alloc W3 (.cells #[.int .i64 n, .int .i64 n] 3)
                have hN4 := (hN.out.keeps hKA).chg hM4.chg (by omega)
                have hQ4 := (((hI.out.blk.keeps hK2.out).keeps hK3.out).keeps hKA).chg hM4.chg (by omega)
                have hA4 := ((hA3.out.keeps hKA).chg hM4.chg (by omega)).otherRow (b' := q) (by omega) (gCells M u2 cs).toArray
                have hfin := hI.out.next hpq hpl hbl hqw hK2.out hP2.out hU2.out (Keeps.trans hK3.out hKA) hM4 hL4 hl2.out
                replace hN4 := Lib.hid hN4
                replace hQ4 := Lib.hid hQ4
                replace hA4 := Lib.hid hA4
                replace hfin := Lib.hid hfin
                clear hL4 hM4 hc1 hc2 hKA
                go_wp2_with (first | (refine loadG hN4.out hlen.out.1 rfl _ rfl rfl ?_) | (refine storeG (cpus := (M : Int)) (v := u2) (ms := cs) hQ4.out hlen.out.1 hlen.out.1 hu1.out rfl _ _ rfl rfl rfl rfl ?_))
                go_meet
                exact ⟨l2, cs, u2, hfin.out, hA4.out⟩
          case rest =>
            obtain ⟨l, cs, u, hI, hA⟩ := hcut
            obtain ⟨A, hAe⟩ : ∃ A, A = wr.heap.size := ⟨_, rfl⟩
            rw [← hAe] at hA ⊢
            clear hAe
            have hL := hI.left
            have hlen := hL.cs
            have hgl := gCells_len M u cs hlen.1
            obtain ⟨ms, hG, hR, hM⟩ := hL
            have hc1 := hA.cell 1 (by simp)
            have hc2 := hA.cell 2 (by simp)
            simp only [List.getElem_cons_succ, List.getElem_cons_zero] at hc1 hc2
            have hx1 := After.cell hc1
            have hx2 := After.cell hc2
            have hact : ∀ x : After wc, Calls Try.prog 13 #[.pointer (some ⟨p, 0, none⟩), .int .i64 c] x.now fun e w' => e = .returned (.int .u64 (actN ms c : Nat)) ∧ ∃ y : After wc, w' = y.now := fun x => After.same x (active_any (hG.keeps x.keeps) c)
            have hon : ∀ x : After wc, Calls Try.prog 14 #[.pointer (some ⟨p, 0, none⟩), .int .i64 n] x.now fun e w' => e = .returned (.int .u64 (onN ms n : Nat)) ∧ ∃ y : After wc, w' = y.now := fun x => After.call x (on_any (hG.keeps x.keeps) n)
            have hal := actN_lt hG c
            have hol := onN_lt ms n
            have hab := fun j hj => hR.act c j hj
            have hob := fun j hj => hR.on n j hj
            generalize actN ms c = am at *
            generalize onN ms n = om at *
            replace hact := Lib.hid hact
            replace hon := Lib.hid hon
            replace hab := Lib.hid hab
            replace hob := Lib.hid hob
            replace hal := Lib.hid hal
            replace hol := Lib.hid hol
            replace hA := Lib.hid hA
            replace hG := Lib.hid hG
            replace hI := Lib.hid hI
            replace hlen := Lib.hid hlen
            replace hgl := Lib.hid hgl
            go_wp2_with fail
            refine region_after (by kernel_rfl) (by kernel_rfl) ?_
            repeat (go_big_quiet_step (first | (with_reducible exact hact.out _) | (with_reducible exact hon.out _)))
            refine wpQuiet_nil ?_
            rintro _ ⟨⟨W, hKW⟩, rfl⟩
            clear hx1 hx2 hc1 hc2 hact hon
            replace hKW := Lib.hid hKW
            go_wp2_with fail
            go_loopw [17] (fun j wr => ∃ jj : Nat, jj ≤ 64 ∧ j = .int .i64 jj ∧ Keeps wc wr) (fun j _ => 64 - (intOf j).toNat)
            case atStart => exact ⟨0, Nat.zero_le _, rfl, hKW.out⟩
            case round =>
              clear hKW
              obtain ⟨jj, hjj, rfl, hKW⟩ := hrel
              have hI2 := hI.out.kept hKW
              have hA2 := hA.out.keeps hKW
              have hG2 := hG.out.keeps hKW
              have hc1 := hA2.cell 1 (by simp)
              have hc2 := hA2.cell 2 (by simp)
              simp only [List.getElem_cons_succ, List.getElem_cons_zero] at hc1 hc2
              have hx1 := After.cell hc1
              have hx2 := After.cell hc2
              have hrow : ∀ w', (∃ x : After wr, w' = x.now) → Blk w' q 31 (gCells M u cs) := by rintro _ ⟨x, rfl⟩; exact hI2.blk.keeps x.keeps
              clear hc1 hc2
              by_cases hj : jj < 64
              · have hha : ∀ x : After wr, Calls Try.prog 15 #[.int .u64 (am : Nat), .int .i64 (jj : Int)] x.now fun e w' => e = .returned (.bool (decide (0 ≤ findI l c jj))) ∧ ∃ y : After wr, w' = y.now := fun x => by
                  have := has_any am jj x.now hal.out
                  rw [hab.out jj hj] at this
                  exact After.same x this
                have hho : ∀ x : After wr, Calls Try.prog 15 #[.int .u64 (om : Nat), .int .i64 (jj : Int)] x.now fun e w' => e = .returned (.bool (decide (0 ≤ findI l jj n))) ∧ ∃ y : After wr, w' = y.now := fun x => by
                  have := has_any om jj x.now hol.out
                  rw [hob.out jj hj] at this
                  exact After.same x this
                have hf1 : ∀ x : After wr, Calls Try.prog 16 #[.agg (gCells M u cs).toArray, .int .i64 c, .int .i64 (jj : Int)] x.now fun e w' => e = .returned (.int .i64 (findI l c jj)) ∧ ∃ y : After wr, w' = y.now := fun x => After.call x (find_any M u cs l c jj x.now (Slc_pairs hI2.prs x.keeps))
                have hf2 : ∀ x : After wr, Calls Try.prog 16 #[.agg (gCells M u cs).toArray, .int .i64 (jj : Int), .int .i64 n] x.now fun e w' => e = .returned (.int .i64 (findI l jj n)) ∧ ∃ y : After wr, w' = y.now := fun x => After.call x (find_any M u cs l jj n x.now (Slc_pairs hI2.prs x.keeps))
                generalize findI l c jj = F1 at *
                generalize findI l jj n = F2 at *
                replace hha := Lib.hid hha
                replace hho := Lib.hid hho
                replace hf1 := Lib.hid hf1
                replace hf2 := Lib.hid hf2
                replace hrow := Lib.hid hrow
                replace hKW := Lib.hid hKW
                clear hI2 hA2 hG2
                go_wp2_with fail
                refine region_after (by kernel_rfl) (by kernel_rfl) ?_
                iterate 3 go_big_quiet_step (first | (with_reducible exact hha.out _) | (with_reducible exact hho.out _) | (with_reducible exact hf1.out _) | (with_reducible exact hf2.out _))
                refine quietRow hrow.out rfl 31 _ rfl rfl _ Try.underlying31 rfl 18 sizeG hgl.out ?_
                go_frame
                iterate 10 go_big_quiet_step (first | (with_reducible exact hha.out _) | (with_reducible exact hho.out _) | (with_reducible exact hf1.out _) | (with_reducible exact hf2.out _))
                refine quietRow hrow.out rfl 31 _ rfl rfl _ Try.underlying31 rfl 18 sizeG hgl.out ?_
                go_frame
                repeat go_big_quiet_step (first | (with_reducible exact hha.out _) | (with_reducible exact hho.out _) | (with_reducible exact hf1.out _) | (with_reducible exact hf2.out _))
                refine wpQuiet_nil ?_
                rintro _ ⟨⟨W2, hK2⟩, rfl⟩
                replace hK2 := Lib.hid hK2
                clear hx1 hx2
                go_wp2_with fail
                go_roundw
                case rel => exact ⟨jj + 1, by omega, by go_num, Keeps.trans hKW.out hK2.out⟩
                case measure => (simp [intOf]; try omega)
              · obtain rfl : jj = 64 := by omega
                have hm16 : ∀ x : After wr, Calls Try.prog 17 #[.pointer (some ⟨p, 0, none⟩), .int .i64 16] x.now fun e w' => e = .returned (.int .i64 0) ∧ ∃ y : After wr, w' = y.now := fun x => After.same x (missed_no (hG2.keeps x.keeps) 16 (by omega))
                have hmm1 : ∀ x : After wr, Calls Try.prog 17 #[.pointer (some ⟨p, 0, none⟩), .int .i64 (-1)] x.now fun e w' => e = .returned (.int .i64 0) ∧ ∃ y : After wr, w' = y.now := fun x => After.same x (missed_no (hG2.keeps x.keeps) (-1) (by omega))
                have htot : ∀ x : After wr, Calls Try.prog 18 #[.pointer (some ⟨p, 0, none⟩)] x.now fun e w' => e = .returned (.int .i64 (sumTo cs 16 : Nat)) ∧ ∃ y : After wr, w' = y.now := fun x => After.same x (total_any (hG2.keeps x.keeps))
                have hrto : ∀ x : After wr, Calls Try.prog 19 #[.agg (gCells M u cs).toArray] x.now fun e w' => e = .returned (.int .i64 (sumTo cs 16 : Nat)) ∧ ∃ y : After wr, w' = y.now := fun x => After.call x (refTotal_any M u cs x.now hlen.out.1 hlen.out.2)
                have hmy : ∀ (nn : Nat), n = nn → nn < 16 → (∀ x : After wr, Calls Try.prog 17 #[.pointer (some ⟨p, 0, none⟩), .int .i64 n] x.now fun e w' => e = .returned (.int .i64 (cs.getD nn 0 : Nat)) ∧ ∃ y : After wr, w' = y.now) ∧ (∀ x : After wr, x.now.cell? ⟨q, 2 + nn, none⟩ = some (.int .i64 (cs.getD nn 0 : Nat))) := by
                  rintro nn rfl hnn
                  refine ⟨fun x => After.same x (missed_yes (hG2.keeps x.keeps) nn hnn), After.cell ?_⟩
                  have := hI2.blk.cellD (2 + nn) (by rw [hgl.out]; omega)
                  rwa [gCells_get _ _ _ _ (by rw [hlen.out.1]; exact hnn)] at this
                have hcase : n < 0 ∨ (¬ n < 0 ∧ 16 ≤ n) ∨ ∃ nn : Nat, n = nn ∧ nn < 16 := by
                  by_cases h1 : n < 0
                  · exact .inl h1
                  · by_cases h2 : 16 ≤ n
                    · exact .inr (.inl ⟨h1, h2⟩)
                    · exact .inr (.inr ⟨n.toNat, by omega, by omega⟩)
                generalize sumTo cs 16 = T at *
                replace hm16 := Lib.hid hm16
                replace hmm1 := Lib.hid hmm1
                replace htot := Lib.hid htot
                replace hrto := Lib.hid hrto
                replace hmy := Lib.hid hmy
                replace hrow := Lib.hid hrow
                replace hKW := Lib.hid hKW
                replace hI2 := Lib.hid hI2
                clear hA2 hG2 hab hob
                rcases hcase with h1 | ⟨h1, h2⟩ | ⟨nn, hnn, h1⟩
                · have hb1 : decide (0 ≤ n) = false := decide_eq_false (by omega)
                  go_wp2_with fail
                  refine region_after (by kernel_rfl) (by kernel_rfl) ?_
                  iterate 33 go_big_quiet_step (first | (with_reducible exact hm16.out _) | (with_reducible exact hmm1.out _) | (with_reducible exact htot.out _) | (with_reducible exact hrto.out _))
                  refine quietRow hrow.out rfl 31 _ rfl rfl _ Try.underlying31 rfl 18 sizeG hgl.out ?_
                  go_frame
                  repeat go_big_quiet_step (first | (with_reducible exact hm16.out _) | (with_reducible exact hmm1.out _) | (with_reducible exact htot.out _) | (with_reducible exact hrto.out _))
                  refine wpQuiet_nil ?_
                  rintro _ ⟨⟨W2, hK2⟩, rfl⟩
                  replace hK2 := Lib.hid hK2
                  clear hx1 hx2
                  go_wp2_with fail
                  go_roundw
                  case rel => exact ⟨k + 1, l, cs, u, by omega, by omega, by go_num, hI2.out.kept hK2.out⟩
                  case measure => (simp [intOf]; try omega)
                · have hb1 : decide (n < 16) = false := decide_eq_false (by omega)
                  go_wp2_with fail
                  refine region_after (by kernel_rfl) (by kernel_rfl) ?_
                  iterate 33 go_big_quiet_step (first | (with_reducible exact hm16.out _) | (with_reducible exact hmm1.out _) | (with_reducible exact htot.out _) | (with_reducible exact hrto.out _))
                  refine quietRow hrow.out rfl 31 _ rfl rfl _ Try.underlying31 rfl 18 sizeG hgl.out ?_
                  go_frame
                  repeat go_big_quiet_step (first | (with_reducible exact hm16.out _) | (with_reducible exact hmm1.out _) | (with_reducible exact htot.out _) | (with_reducible exact hrto.out _))
                  refine wpQuiet_nil ?_
                  rintro _ ⟨⟨W2, hK2⟩, rfl⟩
                  replace hK2 := Lib.hid hK2
                  clear hx1 hx2
                  go_wp2_with fail
                  go_roundw
                  case rel => exact ⟨k + 1, l, cs, u, by omega, by omega, by go_num, hI2.out.kept hK2.out⟩
                  case measure => (simp [intOf]; try omega)
                · obtain ⟨hms, hcl⟩ := hmy.out nn hnn h1
                  subst hnn
                  have h3 : (0 : Int) ≤ (nn : Int) := by omega
                  have h4 : (nn : Int) < 16 := by omega
                  generalize cs.getD nn 0 = X at *
                  replace hms := Lib.hid hms
                  go_wp2_with fail
                  refine region_after (by kernel_rfl) (by kernel_rfl) ?_
                  iterate 33 go_big_quiet_step (first | (with_reducible exact hms.out _) | (with_reducible exact hm16.out _) | (with_reducible exact hmm1.out _) | (with_reducible exact htot.out _) | (with_reducible exact hrto.out _))
                  refine quietRow hrow.out rfl 31 _ rfl rfl _ Try.underlying31 rfl 18 sizeG hgl.out ?_
                  go_frame
                  repeat go_big_quiet_step (first | (with_reducible exact hms.out _) | (with_reducible exact hm16.out _) | (with_reducible exact hmm1.out _) | (with_reducible exact htot.out _) | (with_reducible exact hrto.out _))
                  refine wpQuiet_nil ?_
                  rintro _ ⟨⟨W2, hK2⟩, rfl⟩
                  replace hK2 := Lib.hid hK2
                  clear hx1 hx2 hcl
                  go_wp2_with fail
                  go_roundw
                  case rel => exact ⟨k + 1, l, cs, u, by omega, by omega, by go_num, hI2.out.kept hK2.out⟩
                  case measure => (simp [intOf]; try omega)
        · obtain rfl : k = 60 := by omega
          go_wp2_with fail
          refine (known23_any _).mono ?_
          rintro e w2 ⟨rfl, hK2⟩
          go_wp2_with fail
          go_ret
          exact ⟨rfl, Keeps.trans hI.out.keeps hK2⟩
      · obtain rfl : k = acts.length := by omega
        go_wp2_with fail
        refine (known23_any _).mono ?_
        rintro e w2 ⟨rfl, hK2⟩
        go_wp2_with fail
        go_ret
        exact ⟨rfl, Keeps.trans hI.out.keeps hK2⟩
end Go.Proofs.Ytmjknhjlhnljpaa
