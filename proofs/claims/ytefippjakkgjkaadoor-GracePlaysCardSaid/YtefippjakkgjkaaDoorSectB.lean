/- The walks of package sect: enter, Exit, and of, Depth, Since, In, Stamp. -/
import Derived.Test.YtefippjakkgjkaaDoorSectA
namespace Go.Proofs.YtefippjakkgjkaaDoor
open Go.RowKit

/-- Cells that read as sections are theirs. -/
theorem sCells_ext {S : SSt} (h : S.Ok) {cs : List Value} (hl : cs.length = 130) (hd : ∀ q, q < 64 → cs[q * 2]? = some (.int .i64 (S.dep q : Nat))) (hs : ∀ q, q < 64 → cs[q * 2 + 1]? = some (.int .i64 (S.sin q : Nat)))
    (hi : cs[128]? = some (.int .u64 (S.m : Int))) (ht : cs[129]? = some (.int .i64 (S.st : Int))) : cs = sCells S := by
  apply List.ext_getElem?
  intro j
  by_cases h1 : j < 128
  · by_cases h2 : j % 2 = 0
    · have e : j = j / 2 * 2 := by omega
      rw [e, hd _ (by omega), sCells_dep h _ (by omega)]
    · have e : j = j / 2 * 2 + 1 := by omega
      rw [e, hs _ (by omega), sCells_sin h _ (by omega)]
  · by_cases h2 : j = 128
    · rw [h2, hi, sCells_in h]
    · by_cases h3 : j = 129
      · rw [h3, ht, sCells_st h]
      · rw [List.getElem?_eq_none (by omega), List.getElem?_eq_none (by rw [h.cells]; omega)]

theorem SSt.entE_8 {S : SSt} {r : Nat} (hr : r < 64) (h : S.dep r = 8) : S.entE r = 3 ∧ S.ent r = S := by
  simp only [SSt.entE, SSt.ent, Int.toNat_natCast]
  rw [if_pos (by omega), if_pos h, if_pos (by omega), if_pos h]; exact ⟨rfl, rfl⟩
theorem SSt.entE_0 {S : SSt} {r : Nat} (hr : r < 64) (h : S.dep r = 0) : S.entE r = 0 ∧ S.ent r = ⟨S.rs.set r (1, S.st + 1), orN S.m r, S.st + 1⟩ := by
  simp only [SSt.entE, SSt.ent, Int.toNat_natCast]
  rw [if_pos (by omega), if_neg (by omega), if_pos (by omega), if_neg (by omega), if_pos h]; exact ⟨rfl, rfl⟩
theorem SSt.entE_n {S : SSt} {r : Nat} (hr : r < 64) (h : S.dep r ≠ 0) (h8 : S.dep r ≠ 8) : S.entE r = 0 ∧ S.ent r = ⟨S.rs.set r (S.dep r + 1, S.sin r), S.m, S.st⟩ := by
  simp only [SSt.entE, SSt.ent, Int.toNat_natCast]
  rw [if_pos (by omega), if_neg h8, if_pos (by omega), if_neg h8, if_neg h]; exact ⟨rfl, rfl⟩
theorem SSt.entE_no {S : SSt} {r : Int} (hr : ¬ (0 ≤ r ∧ r < 64)) : S.entE r = 2 ∧ S.ent r = S := by
  simp only [SSt.entE, SSt.ent]
  rw [if_neg hr, if_neg hr]; exact ⟨rfl, rfl⟩
theorem SSt.exiE_no {S : SSt} {r : Int} (hr : ¬ (0 ≤ r ∧ r < 64)) : S.exiE r = 2 ∧ S.exi r = S ∧ S.exiB r = false := by
  simp only [SSt.exiE, SSt.exi, SSt.exiB]
  rw [if_neg hr, if_neg hr, decide_eq_false hr]; exact ⟨rfl, rfl, rfl⟩
theorem SSt.exiE_0 {S : SSt} {r : Nat} (hr : r < 64) (h : S.dep r = 0) : S.exiE r = 6 ∧ S.exi r = S ∧ S.exiB r = false := by
  simp only [SSt.exiE, SSt.exi, SSt.exiB, Int.toNat_natCast]
  rw [if_pos (by omega), if_pos h, if_pos (by omega), if_pos h]; exact ⟨rfl, rfl, by simp [h]⟩
theorem SSt.exiE_1 {S : SSt} {r : Nat} (hr : r < 64) (h : S.dep r = 1) : S.exiE r = 0 ∧ S.exi r = ⟨S.rs.set r (0, 0), withoutN S.m [(r : Int)], S.st⟩ ∧ S.exiB r = true := by
  simp only [SSt.exiE, SSt.exi, SSt.exiB, Int.toNat_natCast]
  rw [if_pos (by omega), if_neg (by omega), if_pos (by omega), if_neg (by omega), if_pos h]; exact ⟨rfl, rfl, by simp [h]; omega⟩
theorem SSt.exiE_n {S : SSt} {r : Nat} (hr : r < 64) (h0 : S.dep r ≠ 0) (h : S.dep r ≠ 1) : S.exiE r = 0 ∧ S.exi r = ⟨S.rs.set r (S.dep r - 1, S.sin r), S.m, S.st⟩ ∧ S.exiB r = false := by
  simp only [SSt.exiE, SSt.exi, SSt.exiB, Int.toNat_natCast]
  rw [if_pos (by omega), if_neg h0, if_pos (by omega), if_neg h0, if_neg h]; exact ⟨rfl, rfl, by simp [h]⟩

set_option maxRecDepth 100000 in
set_option maxHeartbeats 1000000 in
theorem enter1_any {w : World} {p : Nat} {S : SSt} (h : SectAt w p S) (hst : S.st < 1000000) (r : Int) :
    Calls Tryd.prog 71 #[.pointer (some ⟨p, 0, none⟩), .int .i64 r] w fun e w' => e = .returned (.int .i64 (S.entE r)) ∧ SectAt w' p (S.ent r) ∧ Chg (· = p) w w' := by
  by_cases hr : 0 ≤ r ∧ r < 64
  · obtain ⟨k, rfl⟩ : ∃ k : Nat, r = k := ⟨r.toNat, by omega⟩
    have hk : k < 64 := by omega
    have hd := h.cDep k hk
    have hs := h.cSin k hk
    have hi := h.cIn
    have ht := h.cSt
    have hf := fun j => h.hdr.frozen j
    have hfind := fun w => find_yes p k w hk
    have hd8 := h.ok.dep8 k
    have hokE := h.ok.ent k
    have hfd := hf (k * 2)
    have hfs := hf (k * 2 + 1)
    have hfi := hf 128
    have hft := hf 129
    have hplt := h.hdr.lt
    replace hfind := Lib.hid hfind
    clear hf
    by_cases h8 : S.dep k = 8
    · obtain ⟨e1, e2⟩ := SSt.entE_8 hk h8
      rw [e1, e2]
      have hb : (((S.dep k : Nat) : Int) == 8) = true := by rw [h8]; rfl
      clear e1 e2 hs hi ht hokE
      replace h := Lib.hid h
      generalize S.dep k = d at *
      replace h8 := Lib.hid h8
      go_enter Tryd.func71, Tryd.ntmps71
      go_wp2_with fail
      refine (hfind.out _).mono ?_
      rintro e w' ⟨rfl, rfl⟩
      go_wp2_with fail
      go_ret
      exact ⟨rfl, h.out, Chg.refl _ _⟩
    · by_cases h0 : S.dep k = 0
      · obtain ⟨e1, e2⟩ := SSt.entE_0 hk h0
        rw [e1, e2]
        rw [e2] at hokE
        have hwith := fun (W : World) => with_any S.m (.slice (some ⟨W.heap.size, 0, none⟩) 1 1) [(k : Int)] (W.alloc (.cells #[.int .i64 (k : Int)] 3)) h.ok.word (ints_at W 3 [(k : Int)] _ rfl (by simp [maxLen]))
        rw [show withN S.m [(k : Int)] = orN S.m k from rfl] at hwith
        have b8 : (((S.dep k : Nat) : Int) == 8) = false := by rw [h0]; rfl
        have b0 : (((S.dep k : Nat) : Int) == 0) = true := by rw [h0]; rfl
        have hB := h.hdr
        -- the cells, one store behind the other
        have hc := h.ok.cells
        have hw1 : IntKind.i64.wrap ((S.st : Int) + 1) = (S.st : Int) + 1 := IntWalk.i64_in _ (by omega)
        have fin : ∀ cs : List Value, cs = ((((sCells S).set 129 (.int .i64 ((S.st : Int) + 1))).set (k * 2 + 1) (.int .i64 ((S.st : Int) + 1))).set 128 (.int .u64 (orN S.m k : Nat))).set (k * 2) (.int .i64 1) →
            cs = sCells ⟨S.rs.set k (1, S.st + 1), orN S.m k, S.st + 1⟩ := by
          rintro cs rfl
          have hkl : k < S.rs.length := by rw [h.ok.len]; exact hk
          refine sCells_ext hokE (by simpa using hc) (fun q hq => ?_) (fun q hq => ?_) ?_ ?_
          · rw [SSt.dep_set _ _ _ _ _ hkl]
            by_cases e : k = q
            · subst e; rw [List.getElem?_set_self (by simp [hc]; omega), if_pos rfl]; rfl
            · rw [List.getElem?_set_ne (by omega), List.getElem?_set_ne (by omega), List.getElem?_set_ne (by omega), List.getElem?_set_ne (by omega), sCells_dep h.ok q hq, if_neg e]; rfl
          · rw [SSt.sin_set _ _ _ _ _ hkl]
            by_cases e : k = q
            · subst e; rw [List.getElem?_set_ne (by omega), List.getElem?_set_ne (by omega), List.getElem?_set_self (by simp [hc]; omega), if_pos rfl]; rfl
            · rw [List.getElem?_set_ne (by omega), List.getElem?_set_ne (by omega), List.getElem?_set_ne (by omega), List.getElem?_set_ne (by omega), sCells_sin h.ok q hq, if_neg e]; rfl
          · rw [List.getElem?_set_ne (by omega), List.getElem?_set_self (by simp [hc])]
          · rw [List.getElem?_set_ne (by omega), List.getElem?_set_ne (by omega), List.getElem?_set_ne (by omega), List.getElem?_set_self (by simp [hc])]; rfl
        have fin1 : ((sCells S).set 129 (.int .i64 ((S.st : Int) + 1)))[129]? = some (.int .i64 ((S.st : Int) + 1)) := List.getElem?_set_self (by simp [hc])
        have fin2 : (((sCells S).set 129 (.int .i64 ((S.st : Int) + 1))).set (k * 2 + 1) (.int .i64 ((S.st : Int) + 1)))[128]? = some (.int .u64 (S.m : Int)) := by
          rw [List.getElem?_set_ne (by omega), List.getElem?_set_ne (by omega), sCells_in h.ok]
        have fin3 : ((((sCells S).set 129 (.int .i64 ((S.st : Int) + 1))).set (k * 2 + 1) (.int .i64 ((S.st : Int) + 1))).set 128 (.int .u64 (orN S.m k : Nat)))[k * 2]? = some (.int .i64 ((S.dep k : Nat) : Int)) := by
          rw [List.getElem?_set_ne (by omega), List.getElem?_set_ne (by omega), List.getElem?_set_ne (by omega), sCells_dep h.ok k hk]
        clear e1 e2
        generalize orN S.m k = om at *
        generalize S.dep k = d at *
        generalize hst' : S.st = st at *
        generalize hm' : S.m = m at *
        generalize hcs : sCells S = cs at *
        generalize hS' : SSt.mk (S.rs.set k (1, st + 1)) om (st + 1) = S' at *
        replace fin1 := Lib.hid fin1
        replace fin2 := Lib.hid fin2
        replace fin3 := Lib.hid fin3
        replace hwith := Lib.hid hwith
        replace h0 := Lib.hid h0
        replace hB := Lib.hid hB
        replace fin := Lib.hid fin
        clear h h8 hst' hm' hcs hS' hc hs hi
        go_enter Tryd.func71, Tryd.ntmps71
        go_wp2_with fail
        refine (hfind.out _).mono ?_
        rintro e w' ⟨rfl, rfl⟩
        go_upto_region 8 with (fail)
        refine wp_gen (fun W => Blk W p 83 (cs.set 129 (.int .i64 ((st : Int) + 1))) ∧ Chg (· = p) w W) ⟨hB.out.set _ _, Chg.setCell _ _ rfl⟩ ?_
        clear hB hfd hfs hfi hft hd ht
        rintro W1 ⟨hB, hC⟩
        have c1 := hB.cellO fin1.out
        have f1 := hB.frozen (k * 2 + 1)
        have c2 : ∃ u, W1.cell? ⟨p, k * 2 + 1, none⟩ = some u := ⟨_, hB.cellD (k * 2 + 1) (by have := List.getElem?_eq_some_iff.1 fin3.out; obtain ⟨h, _⟩ := List.getElem?_eq_some_iff.1 fin1.out; simp at h ⊢; omega)⟩
        obtain ⟨u1, c2⟩ := c2
        replace hC := Lib.hid hC
        replace hB := Lib.hid hB
        go_upto_region 9 with (fail)
        refine wp_gen (fun W => Blk W p 83 ((cs.set 129 (.int .i64 ((st : Int) + 1))).set (k * 2 + 1) (.int .i64 ((st : Int) + 1))) ∧ Chg (· = p) w W) ⟨hB.out.set _ _, hC.out.trans (Chg.setCell _ _ rfl)⟩ ?_
        clear hB hC c1 c2 f1 u1
        rintro W2 ⟨hB, hC⟩
        have c1 := hB.cellO fin2.out
        have f1 := hB.frozen 128
        have hpl := hB.lt
        replace hC := Lib.hid hC
        replace hB := Lib.hid hB
        go_wp2_with fail
        refine (hwith.out _).mono ?_
        rintro e w' ⟨rfl, rfl⟩
        go_upto_region 10 with (fail)
        refine wp_gen (fun W => Blk W p 83 (((cs.set 129 (.int .i64 ((st : Int) + 1))).set (k * 2 + 1) (.int .i64 ((st : Int) + 1))).set 128 (.int .u64 (om : Nat))) ∧ Chg (· = p) w W) ⟨(hB.out.set _ _).alloc _, (hC.out.trans (Chg.setCell _ _ rfl)).trans (Chg.of_keeps (Keeps.alloc _ _))⟩ ?_
        clear hB hC c1 f1 hpl
        rintro W3 ⟨hB, hC⟩
        have c1 := hB.cellO fin3.out
        rw [h0.out] at c1
        have f1 := hB.frozen (k * 2)
        replace hC := Lib.hid hC
        replace hB := Lib.hid hB
        go_wp2_with fail
        go_ret
        exact ⟨rfl, ⟨by rw [← fin.out _ rfl]; exact hB.out.set _ _, hokE⟩, hC.out.trans (Chg.setCell _ _ rfl)⟩
      · obtain ⟨e1, e2⟩ := SSt.entE_n hk h0 h8
        rw [e1, e2]
        rw [e2] at hokE
        have b8 : (((S.dep k : Nat) : Int) == 8) = false := by simp; omega
        have b0 : (((S.dep k : Nat) : Int) == 0) = false := by simp; omega
        have hB := h.hdr
        have hc := h.ok.cells
        have fin : (sCells S).set (k * 2) (.int .i64 ((S.dep k : Nat) + 1)) = sCells ⟨S.rs.set k (S.dep k + 1, S.sin k), S.m, S.st⟩ := by
          have hkl : k < S.rs.length := by rw [h.ok.len]; exact hk
          refine sCells_ext hokE (by simpa using hc) (fun q hq => ?_) (fun q hq => ?_) ?_ ?_
          · rw [SSt.dep_set _ _ _ _ _ hkl]
            by_cases e : k = q
            · subst e; rw [List.getElem?_set_self (by rw [hc]; omega), if_pos rfl]; simp
            · rw [List.getElem?_set_ne (by omega), sCells_dep h.ok q hq, if_neg e]; rfl
          · rw [SSt.sin_set _ _ _ _ _ hkl, List.getElem?_set_ne (by omega), sCells_sin h.ok q hq]
            split
            · rename_i e; subst e; rfl
            · rfl
          · rw [List.getElem?_set_ne (by omega), sCells_in h.ok]
          · rw [List.getElem?_set_ne (by omega), sCells_st h.ok]
        clear e1 e2 hs hi ht
        generalize S.dep k = d at *
        generalize SSt.mk (S.rs.set k (d + 1, S.sin k)) S.m S.st = S' at *
        replace fin := Lib.hid fin
        replace hB := Lib.hid hB
        replace h := Lib.hid h
        clear h0 h8
        go_enter Tryd.func71, Tryd.ntmps71
        go_wp2_with fail
        refine (hfind.out _).mono ?_
        rintro e w' ⟨rfl, rfl⟩
        go_wp2_with fail
        go_ret
        exact ⟨rfl, ⟨by rw [← fin.out]; exact hB.out.set _ _, hokE⟩, Chg.setCell _ _ rfl⟩
  · obtain ⟨e1, e2⟩ := SSt.entE_no (S := S) hr
    rw [e1, e2]
    have hfind := fun w => find_no p r w hr
    replace hfind := Lib.hid hfind
    replace h := Lib.hid h
    clear e1 e2 hr
    go_enter Tryd.func71, Tryd.ntmps71
    go_wp2_with fail
    refine (hfind.out _).mono ?_
    rintro e w' ⟨rfl, rfl⟩
    go_wp2_with fail
    go_ret
    exact ⟨rfl, h.out, Chg.refl _ _⟩
end Go.Proofs.YtefippjakkgjkaaDoor
