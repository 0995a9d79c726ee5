/- A CPU's list takes 64: the walk. -/
import Derived.Test.YtllnncojafcdoaaLaw11
namespace Go.Proofs.Ytllnncojafcdoaa
open Go.RowKit RgC

/-- m callbacks on CPU c of n: numbered from 0 on, up to 64. -/
def fillR (n c m : Nat) : List (List Cl) := (List.replicate n ([] : List Cl)).set c ((List.range (min m 64)).map fun (i : Nat) => ((i : Int), (0 : Int)))
theorem fillR_zero (n c : Nat) : fillR n c 0 = List.replicate n [] := by
  unfold fillR
  apply List.ext_getElem
  · simp
  · intro i h1 h2
    rw [List.getElem_set]
    split <;> simp
theorem fillR_get (n c m : Nat) (hc : c < n) : (fillR n c m).getD c [] = (List.range (min m 64)).map fun (i : Nat) => ((i : Int), (0 : Int)) := by
  simp [fillR, List.getD, hc]
theorem fillR_other (n c m j : Nat) (hj : j < n) (hne : c ≠ j) : (fillR n c m).getD j [] = [] := by
  simp [fillR, List.getD, hne, hj]
theorem fillR_succ (n c m : Nat) (hc : c < n) : (fillR n c m).set c (addR ((fillR n c m).getD c []) [(m : Int)]) = fillR n c (m + 1) := by
  rw [fillR_get n c m hc]
  unfold fillR
  rw [List.set_set]
  congr 1
  unfold addR
  by_cases h : m < 64
  · rw [Nat.min_eq_left (by omega), Nat.min_eq_left (by omega), List.range_succ, List.map_append]
    have : 64 - ((List.range m).map fun (i : Nat) => ((i : Int), (0 : Int))).length = (63 - m) + 1 := by simp; omega
    rw [this]; simp
  · rw [Nat.min_eq_right (by omega), Nat.min_eq_right (by omega)]
    have : 64 - ((List.range 64).map fun (i : Nat) => ((i : Int), (0 : Int))).length = 0 := by simp
    rw [this]; simp
theorem fillR_err (n c m : Nat) (hc : c < n) : (if 1 ≤ 64 - ((fillR n c m).getD c []).length then (0 : Int) else 3) = if m < 64 then 0 else 3 := by
  rw [fillR_get n c m hc]
  by_cases h : m < 64
  · rw [if_pos h, if_pos (by simp; omega)]
  · rw [if_neg h, if_neg (by simp; omega)]
/-- All that is there is open. -/
theorem openC_all (l : List Cl) (h : ∀ c ∈ l, c.2 = 0) : openC l = l.length := by
  unfold openC
  rw [List.filter_eq_self.2 fun c hc => by simpa using h c hc]
theorem addR_open (xs : List Cl) (ids : List Int) (h : ∀ c ∈ xs, c.2 = 0) : ∀ c ∈ addR xs ids, c.2 = 0 := by
  intro c hc
  unfold addR at hc
  rcases List.mem_append.1 hc with h1 | h1
  · exact h c h1
  · obtain ⟨i, _, rfl⟩ := List.mem_map.1 h1; rfl
theorem closeL_len (g : Int) (R : List (List Cl)) : (closeL g R).flatten.length = R.flatten.length := by
  unfold closeL
  simp only [List.length_flatten, List.map_map]
  congr 1
  apply List.map_congr_left
  intro xs _
  simp
theorem flat_getD_le (R : List (List Cl)) (c : Nat) : (R.getD c []).length ≤ R.flatten.length := by
  by_cases h : c < R.length
  · have : R.getD c [] = R[c] := by simp [List.getD, h]
    rw [this]
    exact (List.sublist_flatten_of_mem (List.getElem_mem h)).length_le
  · simp [List.getD, h]
/-- Behind one more on another CPU, or on the same. -/
def fullR (n c m o : Nat) : List (List Cl) := (fillR n c m).set o (addR ((fillR n c m).getD o []) [5])
theorem fillR_open (n c m : Nat) : ∀ xs ∈ fillR n c m, ∀ x ∈ xs, x.2 = 0 := by
  intro xs hxs x hx
  unfold fillR at hxs
  rcases List.mem_or_eq_of_mem_set hxs with h | rfl
  · rw [List.eq_of_mem_replicate h] at hx; cases hx
  · obtain ⟨i, _, rfl⟩ := List.mem_map.1 hx; rfl
theorem fullR_open (n c m o : Nat) : openC (fullR n c m o).flatten = (fullR n c m o).flatten.length := by
  refine openC_all _ fun x hx => ?_
  obtain ⟨xs, h1, h2⟩ := List.mem_flatten.1 hx
  unfold fullR at h1
  rcases List.mem_or_eq_of_mem_set h1 with h | rfl
  · exact fillR_open n c m xs h x h2
  · refine addR_open _ _ (fun y hy => ?_) x h2
    by_cases ho : o < (fillR n c m).length
    · refine fillR_open n c m _ ?_ y hy
      rw [show (fillR n c m).getD o [] = (fillR n c m)[o] by simp [List.getD, ho]]
      exact List.getElem_mem ho
    · rw [show (fillR n c m).getD o [] = [] by simp [List.getD, show (fillR n c m).length ≤ o by omega]] at hy
      cases hy
theorem fullR_len (n c m o : Nat) (hc : c < n) : min m 64 ≤ (fullR n c m o).flatten.length := by
  refine Nat.le_trans ?_ (flat_getD_le _ c)
  unfold fullR
  have h1 : ((fillR n c m).getD c []).length = min m 64 := by rw [fillR_get n c m hc]; simp
  by_cases e : o = c
  · subst e
    have hl : (fillR n o m).length = n := by simp [fillR]
    rw [show ((fillR n o m).set o (addR ((fillR n o m).getD o []) [5])).getD o [] = addR ((fillR n o m).getD o []) [5] by simp [List.getD, hl, hc]]
    unfold addR
    rw [List.length_append, h1]; omega
  · rw [show ((fillR n c m).set o (addR ((fillR n c m).getD o []) [5])).getD c [] = (fillR n c m).getD c [] by simp [List.getD, e], h1]
    exact Nat.le_refl _
theorem fullR_le (n c m o : Nat) (h : ∀ i, ((fullR n c m o).getD i []).length ≤ 64) (hn : n ≤ 64) : (fullR n c m o).flatten.length ≤ 4096 := by
  have := flat_le (fullR n c m o) (fun i _ => h i) _ (Nat.le_refl _)
  rw [List.take_of_length_le (Nat.le_refl _)] at this
  have hl : (fullR n c m o).length = n := by simp [fullR, fillR]
  rw [hl] at this
  omega
theorem fullR_err (n c m o : Nat) (hc : c < n) (ho : o < n) : (if [(5 : Int)].length ≤ 64 - ((fillR n c m).getD o []).length then (0 : Int) else 3) = if o ≠ c ∨ m < 64 then 0 else 3 := by
  by_cases e : o = c
  · subst e
    rw [fillR_get n o m ho]
    by_cases h : m < 64
    · rw [if_pos (by simp; omega), if_pos (Or.inr h)]
    · rw [if_neg (by simp; omega), if_neg (by simp; omega)]
  · rw [fillR_other n c m o ho (Ne.symm e), if_pos (by simp), if_pos (Or.inl e)]
set_option maxRecDepth 100000 in
set_option maxHeartbeats 4000000 in
theorem lawFull_any (n0 c0 m0 : Int) (w : World) : Calls Try.prog 4 #[.int .i64 n0, .int .i64 c0, .int .i64 m0] w fun e w' => e = .returned (.bool true) ∧ Keeps w w' := by
  have hkn := fun (W : World) => known11_any W
  replace hkn := Lib.hid hkn
  by_cases hr : n0 < 1 ∨ 64 < n0
  · have hnew := lnew_no n0 w hr
    have hcase : n0 < 1 ∨ (¬ n0 < 1 ∧ 64 < n0) := by omega
    clear hr
    rcases hcase with h1 | ⟨h1, h2⟩
    all_goals
      go_enter Try.func4, Try.ntmps4
      go_wp2_with fail
      refine hnew.mono ?_
      rintro e w1 ⟨rfl, rfl⟩
      go_wp2_with fail
      refine (hkn.out _).mono ?_
      rintro e w2 ⟨rfl, hK2⟩
      go_wp2_with fail
      go_ret
      exact ⟨rfl, hK2⟩
  · obtain ⟨n, rfl⟩ : ∃ n : Nat, n0 = n := ⟨n0.toNat, by omega⟩
    have hn1 : 1 ≤ n := by omega
    have hn64 : n ≤ 64 := by omega
    obtain ⟨c, hc, ec⟩ := wrap_mod c0 n (by omega)
    obtain ⟨m, hm, em⟩ := wrap_mod m0 80 (by decide)
    have hcn : c < n := by omega
    have hst := LI.start hn1 hn64 w
    have hNa : ¬ (n : Int) < 1 := by omega
    have hNb : ¬ 64 < (n : Int) := by omega
    have hwn : IntKind.u64.wrap (n : Int) = (n : Int) := by rw [IntKind.wrap_u64]; omega
    have hn0 : ((n : Int) == 0) = false := by rw [beq_eq_false_iff_ne]; omega
    replace hst := Lib.hid hst
    clear hr
    go_enter Try.func4, Try.ntmps4
    go_wp2_with fail
    refine hst.out.mono ?_
    rintro e w1 ⟨p, rb, cap, pp, bb, rfl, hL⟩
    rw [← fillR_zero n c] at hL
    replace hL := Lib.hid hL
    clear hst
    go_upto_region 7 with (fail)
    clear hkn
    have hkn := fun (W : World) => known11_any W
    replace hkn := Lib.hid hkn
    have hm0 : (0 : Int) ≤ (m : Int) := by omega
    replace hwn := Lib.hid hwn
    go_wp2_with fail
    go_loopw [9] (fun i wr => ∃ k : Nat, k ≤ m ∧ i = .int .i64 k ∧ LI w p rb cap n pp bb 0 (fillR n c k) wr) (fun i _ => m - (intOf i).toNat)
    case atStart => exact ⟨0, Nat.zero_le _, rfl, hL.out⟩
    case round =>
      clear hL
      obtain ⟨k, hk, rfl, hL⟩ := hrel
      have hkm : k < m ∨ k = m := by omega
      rcases hkm with hlt | rfl
      · have hltI := Int.ofNat_lt.2 hlt
        have ha := hL.add1 c hcn (k : Int) wr.heap.size rfl
        rw [fillR_succ n c k hcn, fillR_err n c k hcn] at ha
        by_cases h64 : k < 64
        all_goals
          first | rw [if_pos h64] at ha | rw [if_neg h64] at ha
          first | (have hq : ¬ 64 ≤ (k : Int) := by omega) | (have hq : 64 ≤ (k : Int) := by omega)
          replace ha := Lib.hid ha
          clear hL
          go_wp2_with fail
          refine ha.out.mono ?_
          rintro e w2 ⟨rfl, hL2⟩
          replace hL2 := Lib.hid hL2
          go_wp2_with fail
          go_roundw
          case rel => exact ⟨k + 1, by omega, by go_num, hL2.out⟩
          case measure => (simp [intOf]; try omega)
      · have ho : (c + 1) % n < n := Nat.mod_lt _ (by omega)
        have hoI : ((c : Int) + 1) % (n : Int) = (((c + 1) % n : Nat) : Int) := by simp
        have hadd := fun (W : World) (h : LI w p rb cap n pp bb 0 (fillR n c k) W) => h.add1 ((c + 1) % n) ho 5 W.heap.size rfl
        have herr := fullR_err n c k ((c + 1) % n) hcn ho
        rw [show (if 1 ≤ 64 - ((fillR n c k).getD ((c + 1) % n) []).length then (0 : Int) else 3) = if (c + 1) % n ≠ c ∨ k < 64 then 0 else 3 from herr] at hadd
        have hfull : (fillR n c k).set ((c + 1) % n) (addR ((fillR n c k).getD ((c + 1) % n) []) [5]) = fullR n c k ((c + 1) % n) := rfl
        rw [hfull] at hadd
        have hopen := fullR_open n c k ((c + 1) % n)
        have hlen := fullR_len n c k ((c + 1) % n) hcn
        have hlew := fun (W : World) (h : LI w p rb cap n pp bb 0 (fullR n c k ((c + 1) % n)) W) => fullR_le n c k ((c + 1) % n) (fun i => by
          by_cases hi : i < n
          · obtain ⟨hd, hR⟩ := h.at'.ring i hi; exact hR.len
          · have hl : (fullR n c k ((c + 1) % n)).length = n := by simp [fullR, fillR]
            simp [List.getD, show (fullR n c k ((c + 1) % n)).length ≤ i by omega]) hn64
        have hcl := closeL_len 1 (fullR n c k ((c + 1) % n))
        have hadd0 := hadd wr hL
        generalize fullR n c k ((c + 1) % n) = R2 at *
        generalize (c + 1) % n = o at *
        generalize hNN : R2.flatten.length = N at *
        replace hNN := Lib.hid hNN
        replace hoI := Lib.hid hoI
        replace hadd0 := Lib.hid hadd0
        replace hopen := Lib.hid hopen
        replace hcl := Lib.hid hcl
        replace hlew := Lib.hid hlew
        clear hL hadd herr hfull
        go_upto_region 16 with (fail)
        rw [hoI.out]
        have hcases : (o ≠ c ∧ k < 64) ∨ (o ≠ c ∧ k = 64) ∨ (o ≠ c ∧ 64 < k) ∨ (o = c ∧ k < 64) ∨ (o = c ∧ k = 64) ∨ (o = c ∧ 64 < k) := by omega
        have hlI : (0 : Int) ≤ (N : Int) := by omega
        rcases hcases with ⟨h1, h2⟩ | ⟨h1, h2⟩ | ⟨h1, h2⟩ | ⟨h1, h2⟩ | ⟨h1, h2⟩ | ⟨h1, h2⟩
        all_goals
          have ha := hadd0.out
          first
            | (rw [if_pos (Or.inl h1)] at ha; have hb : ((o : Int) != (c : Int)) = true := by simp; omega)
            | (rw [if_pos (Or.inr (by omega))] at ha; have hb : ((o : Int) != (c : Int)) = false := by simp [h1])
            | (rw [if_neg (by omega)] at ha; have hb : ((o : Int) != (c : Int)) = false := by simp [h1])
          first | (have h2I : (k : Int) < 64 := by omega) | (have h2I : 64 ≤ (k : Int) := by omega)
          first | (have h2J : ¬ 64 < (k : Int) := by omega) | (have h2J : 64 < (k : Int) := by omega)
          replace h2 := Lib.hid h2
          first
            | (have hb2 : (o == c) = false := by simpa using h1
               have hb3 : (o != c) = true := by simpa using h1
               have hb4 : decide (o = c) = false := by simpa using h1)
            | (have hb2 : (o == c) = true := by simpa using h1
               have hb3 : (o != c) = false := by simpa using h1
               have hb4 : decide (o = c) = true := by simpa using h1)
          replace ha := Lib.hid ha
          replace h1 := Lib.hid h1
          clear hadd0
          go_wp2_with fail
          refine ha.out.mono ?_
          rintro e w3 ⟨rfl, hL3⟩
          replace hL3 := Lib.hid hL3
          clear ha
          go_wp2_with fail
          refine (hkn.out _).mono ?_
          rintro e w4 ⟨rfl, hK4⟩
          have hL4 := hL3.out.kept hK4
          have hn4 := hL4.addNo (n : Int) (.inr (Int.le_refl _)) (.slice (some ⟨w4.heap.size, 0, none⟩) 1 1) (w4.alloc (.cells #[.int .i64 1] 3)) (Keeps.alloc _ _)
          replace hL4 := Lib.hid hL4
          replace hn4 := Lib.hid hn4
          clear hL3 hK4
          go_wp2_with fail
          refine hn4.out.mono ?_
          rintro e w5 ⟨rfl, rfl⟩
          have hL5 := hL4.out.kept (Keeps.alloc w4 (.cells #[.int .i64 1] 3))
          generalize w4.alloc (.cells #[.int .i64 1] 3) = w5 at *
          have hn5 := hL5.addNo (-1) (.inl (by decide)) (.slice (some ⟨w5.heap.size, 0, none⟩) 1 1) (w5.alloc (.cells #[.int .i64 1] 3)) (Keeps.alloc _ _)
          replace hL5 := Lib.hid hL5
          replace hn5 := Lib.hid hn5
          clear hn4 hL4
          go_wp2_with fail
          refine hn5.out.mono ?_
          rintro e w6 ⟨rfl, rfl⟩
          have hL6 := hL5.out.kept (Keeps.alloc w5 (.cells #[.int .i64 1] 3))
          generalize w5.alloc (.cells #[.int .i64 1] 3) = w6 at *
          have hc6 := hL6.close 1 (by decide) (by decide)
          rw [hopen.out] at hc6
          have hle6 := hlew.out w6 hL6
          replace hc6 := Lib.hid hc6
          clear hn5 hL5 hL6
          go_wp2_with fail
          refine hc6.out.mono ?_
          rintro e w7 ⟨rfl, hL7⟩
          have hl7 := fun (W : World) (h : LI w p rb cap n pp bb 1 (closeL 1 R2) W) => llen_any h.all
          rw [hcl.out] at hl7
          have hl7a := hl7 w7 hL7
          replace hl7 := Lib.hid hl7
          replace hl7a := Lib.hid hl7a
          replace hL7 := Lib.hid hL7
          clear hc6
          go_wp2_with fail
          refine hl7a.out.mono ?_
          rintro e w8 ⟨rfl, hK8⟩
          have hL8 := hL7.out.kept hK8
          have hl8 := hl7.out w8 hL8
          replace hL8 := Lib.hid hL8
          replace hl8 := Lib.hid hl8
          clear hL7 hK8 hl7 hl7a
          have hmm : min k 64 ≤ N := hlen
          have h2o := h2.out
          first
            | (have hq1 : k ≤ N := by omega
               have hq2 : decide (k ≤ N) = true := by simpa using hq1)
            | (have hq1 : (64 : Int) ≤ (N : Int) := by omega
               have hq2 : decide ((64 : Int) ≤ (N : Int)) = true := by simpa using hq1)
          clear h2o
          clear hmm
          go_wp2_with fail
          refine hl8.out.mono ?_
          rintro e w9 ⟨rfl, hK9⟩
          replace hK9 := Lib.hid hK9
          go_wp2_with fail
          go_ret
          first
            | exact ⟨rfl, Keeps.trans hL8.out.keeps hK9.out⟩
            | exact ⟨ret_bool (by simp; omega), Keeps.trans hL8.out.keeps hK9.out⟩
end Go.Proofs.Ytllnncojafcdoaa
