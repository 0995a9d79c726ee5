/- The walks of package sect: Exit, of, Depth, Since, In, Stamp. -/
import Derived.Test.YtefippjakkgjkaaDoorSectB
import Derived.Test.YtefippjakkgjkaaDoorDeedM
namespace Go.Proofs.YtefippjakkgjkaaDoor
open Go.RowKit

set_option maxHeartbeats 400000 in
theorem exit_nil (r : Int) (w : World) : Calls Tryd.prog 43 #[.pointer none, .int .i64 r] w fun e w' => e = .returned (.tuple #[.bool false, .int .i64 6]) ∧ w = w' := by
  go_enter Tryd.func43, Tryd.ntmps43
  go_wp2_with fail
  refine (find_nil r _).mono ?_
  rintro e w' ⟨rfl, rfl⟩
  go_wp2_with fail
  go_ret2
  exact ⟨rfl, rfl⟩
set_option maxRecDepth 100000 in
set_option maxHeartbeats 1000000 in
theorem exit_any {w : World} {p : Nat} {S : SSt} (h : SectAt w p S) (r : Int) :
    Calls Tryd.prog 43 #[.pointer (some ⟨p, 0, none⟩), .int .i64 r] w fun e w' => e = .returned (.tuple #[.bool (S.exiB r), .int .i64 (S.exiE r)]) ∧ SectAt w' p (S.exi r) ∧ Chg (· = p) w w' := by
  by_cases hr : 0 ≤ r ∧ r < 64
  · obtain ⟨k, rfl⟩ : ∃ k : Nat, r = k := ⟨r.toNat, by omega⟩
    have hk : k < 64 := by omega
    have hd := h.cDep k hk
    have hf := fun j => h.hdr.frozen j
    have hfind := fun w => find_yes p k w hk
    have hd8 := h.ok.dep8 k
    have hokE := h.ok.exi k
    have hfd := hf (k * 2)
    have hplt := h.hdr.lt
    replace hfind := Lib.hid hfind
    clear hf
    by_cases h0 : S.dep k = 0
    · obtain ⟨e1, e2, e3⟩ := SSt.exiE_0 hk h0
      rw [e1, e2, e3]
      have hb : (((S.dep k : Nat) : Int) == 0) = true := by rw [h0]; rfl
      clear e1 e2 e3 hokE
      replace h := Lib.hid h
      generalize S.dep k = d at *
      replace h0 := Lib.hid h0
      go_enter Tryd.func43, Tryd.ntmps43
      go_wp2_with fail
      refine (hfind.out _).mono ?_
      rintro e w' ⟨rfl, rfl⟩
      go_wp2_with fail
      go_ret2
      exact ⟨rfl, h.out, Chg.refl _ _⟩
    · have hB := h.hdr
      have hc := h.ok.cells
      have hkl : k < S.rs.length := by rw [h.ok.len]; exact hk
      have b0 : (((S.dep k : Nat) : Int) == 0) = false := by simp; omega
      by_cases h1 : S.dep k = 1
      · obtain ⟨e1, e2, e3⟩ := SSt.exiE_1 hk h1
        rw [e1, e2, e3]
        rw [e2] at hokE
        have hwith := fun (W : World) => without_any S.m (.slice (some ⟨W.heap.size, 0, none⟩) 1 1) [(k : Int)] (W.alloc (.cells #[.int .i64 (k : Int)] 3)) h.ok.word (ints_at W 3 [(k : Int)] _ rfl (by simp [maxLen]))
        have fin : ∀ cs : List Value, cs = (((sCells S).set (k * 2) (.int .i64 0)).set (k * 2 + 1) (.int .i64 0)).set 128 (.int .u64 (withoutN S.m [(k : Int)] : Nat)) →
            cs = sCells ⟨S.rs.set k (0, 0), withoutN S.m [(k : Int)], S.st⟩ := by
          rintro cs rfl
          refine sCells_ext hokE (by simpa using hc) (fun q hq => ?_) (fun q hq => ?_) ?_ ?_
          · rw [SSt.dep_set _ _ _ _ _ hkl]
            by_cases e : k = q
            · subst e; rw [List.getElem?_set_ne (by omega), List.getElem?_set_ne (by omega), List.getElem?_set_self (by rw [hc]; omega), if_pos rfl]; rfl
            · rw [List.getElem?_set_ne (by omega), List.getElem?_set_ne (by omega), List.getElem?_set_ne (by omega), sCells_dep h.ok q hq, if_neg e]; rfl
          · rw [SSt.sin_set _ _ _ _ _ hkl]
            by_cases e : k = q
            · subst e; rw [List.getElem?_set_ne (by omega), List.getElem?_set_self (by simp [hc]; omega), if_pos rfl]; rfl
            · rw [List.getElem?_set_ne (by omega), List.getElem?_set_ne (by omega), List.getElem?_set_ne (by omega), sCells_sin h.ok q hq, if_neg e]; rfl
          · rw [List.getElem?_set_self (by simp [hc])]
          · rw [List.getElem?_set_ne (by omega), List.getElem?_set_ne (by omega), List.getElem?_set_ne (by omega), sCells_st h.ok]
        have fin1 : ((sCells S).set (k * 2) (.int .i64 0))[k * 2]? = some (.int .i64 0) := List.getElem?_set_self (by rw [hc]; omega)
        have fin1' : ((sCells S).set (k * 2) (.int .i64 0))[k * 2 + 1]? = some (.int .i64 ((S.sin k : Nat) : Int)) := by
          rw [List.getElem?_set_ne (by omega), sCells_sin h.ok k hk]
        have fin2 : (((sCells S).set (k * 2) (.int .i64 0)).set (k * 2 + 1) (.int .i64 0))[128]? = some (.int .u64 (S.m : Int)) := by
          rw [List.getElem?_set_ne (by omega), List.getElem?_set_ne (by omega), sCells_in h.ok]
        clear e1 e2 e3
        have hd1 : w.cell? ⟨p, k * 2, none⟩ = some (.int .i64 1) := by rw [hd, h1]; rfl
        clear hd h1 b0 h0 hd8
        generalize withoutN S.m [(k : Int)] = om at *
        generalize S.st = st at *
        generalize S.m = m at *
        generalize S.sin k = sk at *
        generalize sCells S = cs at *
        generalize SSt.mk (S.rs.set k (0, 0)) om st = S' at *
        replace fin1 := Lib.hid fin1
        replace fin1' := Lib.hid fin1'
        replace fin2 := Lib.hid fin2
        replace hwith := Lib.hid hwith
        replace hB := Lib.hid hB
        replace fin := Lib.hid fin
        clear h hc hkl
        go_enter Tryd.func43, Tryd.ntmps43
        go_wp2_with fail
        refine (hfind.out _).mono ?_
        rintro e w' ⟨rfl, rfl⟩
        go_upto_region 7 with (fail)
        refine wp_gen (fun W => Blk W p 83 (cs.set (k * 2) (.int .i64 0)) ∧ Chg (· = p) w W) ⟨hB.out.set _ _, Chg.setCell _ _ rfl⟩ ?_
        clear hB hfd hd1
        rintro W1 ⟨hB, hC⟩
        have c1 := hB.cellO fin1.out
        have c2 := hB.cellO fin1'.out
        have f1 := hB.frozen (k * 2 + 1)
        replace hC := Lib.hid hC
        replace hB := Lib.hid hB
        go_upto_region 10 with (fail)
        refine wp_gen (fun W => Blk W p 83 ((cs.set (k * 2) (.int .i64 0)).set (k * 2 + 1) (.int .i64 0)) ∧ Chg (· = p) w W) ⟨hB.out.set _ _, hC.out.trans (Chg.setCell _ _ rfl)⟩ ?_
        clear hB hC c1 c2 f1
        rintro W2 ⟨hB, hC⟩
        have c1 := hB.cellO fin2.out
        have f1 := hB.frozen 128
        have hpl := hB.lt
        replace hC := Lib.hid hC
        replace hB := Lib.hid hB
        go_wp2_with fail
        refine (hwith.out _).mono ?_
        rintro e w' ⟨rfl, rfl⟩
        go_wp2_with fail
        go_ret2
        refine ⟨rfl, ⟨?_, hokE⟩, (hC.out.trans (Chg.setCell _ _ rfl)).trans (Chg.of_keeps (Keeps.alloc _ _))⟩
        rw [← fin.out _ rfl]; exact (hB.out.set _ _).alloc _
      · obtain ⟨e1, e2, e3⟩ := SSt.exiE_n hk h0 h1
        rw [e1, e2, e3]
        rw [e2] at hokE
        have b1 : decide ((0 : Int) < ((S.dep k : Nat) : Int) - 1) = true := decide_eq_true (by omega)
        have b2 : (0 : Int) < ((S.dep k : Nat) : Int) - 1 := by omega
        have fin : (sCells S).set (k * 2) (.int .i64 ((S.dep k : Nat) - 1)) = sCells ⟨S.rs.set k (S.dep k - 1, S.sin k), S.m, S.st⟩ := by
          refine sCells_ext hokE (by simpa using hc) (fun q hq => ?_) (fun q hq => ?_) ?_ ?_
          · rw [SSt.dep_set _ _ _ _ _ hkl]
            by_cases e : k = q
            · subst e; rw [List.getElem?_set_self (by rw [hc]; omega), if_pos rfl]; simp only; congr 2; omega
            · rw [List.getElem?_set_ne (by omega), sCells_dep h.ok q hq, if_neg e]; rfl
          · rw [SSt.sin_set _ _ _ _ _ hkl, List.getElem?_set_ne (by omega), sCells_sin h.ok q hq]
            split
            · rename_i e; subst e; rfl
            · rfl
          · rw [List.getElem?_set_ne (by omega), sCells_in h.ok]
          · rw [List.getElem?_set_ne (by omega), sCells_st h.ok]
        clear e1 e2 e3 hkl hc
        generalize SSt.mk (S.rs.set k (S.dep k - 1, S.sin k)) S.m S.st = S' at *
        generalize S.dep k = d at *
        replace fin := Lib.hid fin
        replace hB := Lib.hid hB
        replace h := Lib.hid h
        clear h0 h1 b1
        go_enter Tryd.func43, Tryd.ntmps43
        go_wp2_with fail
        refine (hfind.out _).mono ?_
        rintro e w' ⟨rfl, rfl⟩
        go_wp2_with fail
        go_ret2
        exact ⟨rfl, ⟨by rw [← fin.out]; exact hB.out.set _ _, hokE⟩, Chg.setCell _ _ rfl⟩
  · obtain ⟨e1, e2, e3⟩ := SSt.exiE_no (S := S) hr
    rw [e1, e2, e3]
    have hfind := fun w => find_no p r w hr
    replace hfind := Lib.hid hfind
    replace h := Lib.hid h
    clear e1 e2 e3 hr
    go_enter Tryd.func43, Tryd.ntmps43
    go_wp2_with fail
    refine (hfind.out _).mono ?_
    rintro e w' ⟨rfl, rfl⟩
    go_wp2_with fail
    go_ret2
    exact ⟨rfl, h.out, Chg.refl _ _⟩

set_option maxRecDepth 100000 in
set_option maxHeartbeats 400000 in
theorem sof_nil (r : Int) (w : World) : Calls Tryd.prog 74 #[.pointer none, .int .i64 r] w fun e w' => e = .returned (.agg #[.int .i64 0, .int .i64 0]) ∧ Keeps w w' := by
  go_enter Tryd.func74, Tryd.ntmps74
  go_wp2_with fail
  refine (find_nil r _).mono ?_
  rintro e w' ⟨rfl, rfl⟩
  go_wp2_with fail
  exact bodyPost_ret (v := .agg #[.int .i64 0, .int .i64 0]) (by simp [results, Tryd.results74, go_sem]) rfl ⟨rfl, Keeps.alloc _ _⟩
set_option maxRecDepth 100000 in
set_option maxHeartbeats 400000 in
theorem sof_any {w : World} {p : Nat} {S : SSt} (h : SectAt w p S) (r : Int) : Calls Tryd.prog 74 #[.pointer (some ⟨p, 0, none⟩), .int .i64 r] w fun e w' => e = .returned (.agg #[.int .i64 (S.depI r), .int .i64 (S.sinI r)]) ∧ Keeps w w' := by
  unfold SSt.depI SSt.sinI
  by_cases hr : 0 ≤ r ∧ r < 64
  · rw [if_pos hr, if_pos hr]
    obtain ⟨k, rfl⟩ : ∃ k : Nat, r = k := ⟨r.toNat, by omega⟩
    rw [Int.toNat_natCast]
    have hk : k < 64 := by omega
    have hd := h.cDep k hk
    have hs := h.cSin k hk
    have hlt := h.hdr.lt
    have hfind := fun w => find_yes p k w hk
    replace hfind := Lib.hid hfind
    clear hr h
    generalize S.dep k = d at *
    generalize S.sin k = s at *
    go_enter Tryd.func74, Tryd.ntmps74
    go_wp2_with fail
    refine (hfind.out _).mono ?_
    rintro e w' ⟨rfl, rfl⟩
    go_wp2_with fail
    exact bodyPost_ret (v := .agg #[.int .i64 (d : Int), .int .i64 (s : Int)]) (by simp [results, Tryd.results74, go_sem]) rfl ⟨rfl, Keeps.alloc _ _⟩
  · rw [if_neg hr, if_neg hr]
    have hfind := fun w => find_no p r w hr
    replace hfind := Lib.hid hfind
    clear hr h
    go_enter Tryd.func74, Tryd.ntmps74
    go_wp2_with fail
    refine (hfind.out _).mono ?_
    rintro e w' ⟨rfl, rfl⟩
    go_wp2_with fail
    exact bodyPost_ret (v := .agg #[.int .i64 0, .int .i64 0]) (by simp [results, Tryd.results74, go_sem]) rfl ⟨rfl, Keeps.alloc _ _⟩
theorem fieldR (a b : Int) (w : World) : (Instr.field 80 (.agg #[.int .i64 a, .int .i64 b]) 0).run Tryd.prog w = .ok (.int .i64 a) w ∧ (Instr.field 80 (.agg #[.int .i64 a, .int .i64 b]) 1).run Tryd.prog w = .ok (.int .i64 b) w := by
  constructor <;> simp [Instr.field, asAgg, go_sem]
set_option maxHeartbeats 400000 in
theorem depth_nil (r : Int) (w : World) : Calls Tryd.prog 58 #[.pointer none, .int .i64 r] w fun e w' => e = .returned (.int .i64 0) ∧ Keeps w w' := by
  have hfl := fun w => fieldR 0 0 w
  go_enter Tryd.func58, Tryd.ntmps58
  go_wp2_with fail
  refine (sof_nil r _).mono ?_
  rintro e w' ⟨rfl, hK⟩
  go_wp2_with fail
  go_ret
  exact ⟨rfl, hK⟩
set_option maxHeartbeats 400000 in
theorem since_nil (r : Int) (w : World) : Calls Tryd.prog 90 #[.pointer none, .int .i64 r] w fun e w' => e = .returned (.int .i64 0) ∧ Keeps w w' := by
  have hfl := fun w => fieldR 0 0 w
  go_enter Tryd.func90, Tryd.ntmps90
  go_wp2_with fail
  refine (sof_nil r _).mono ?_
  rintro e w' ⟨rfl, hK⟩
  go_wp2_with fail
  go_ret
  exact ⟨rfl, hK⟩
set_option maxHeartbeats 400000 in
theorem depth_any {w : World} {p : Nat} {S : SSt} (h : SectAt w p S) (r : Int) : Calls Tryd.prog 58 #[.pointer (some ⟨p, 0, none⟩), .int .i64 r] w fun e w' => e = .returned (.int .i64 (S.depI r)) ∧ Keeps w w' := by
  have hof := sof_any h r
  have hfl := fun w => fieldR (S.depI r) (S.sinI r) w
  generalize S.depI r = d at *
  generalize S.sinI r = s at *
  go_enter Tryd.func58, Tryd.ntmps58
  go_wp2_with fail
  refine hof.mono ?_
  rintro e w' ⟨rfl, hK⟩
  go_wp2_with fail
  go_ret
  exact ⟨rfl, hK⟩
set_option maxHeartbeats 400000 in
theorem since_any {w : World} {p : Nat} {S : SSt} (h : SectAt w p S) (r : Int) : Calls Tryd.prog 90 #[.pointer (some ⟨p, 0, none⟩), .int .i64 r] w fun e w' => e = .returned (.int .i64 (S.sinI r)) ∧ Keeps w w' := by
  have hof := sof_any h r
  have hfl := fun w => fieldR (S.depI r) (S.sinI r) w
  generalize S.depI r = d at *
  generalize S.sinI r = s at *
  go_enter Tryd.func90, Tryd.ntmps90
  go_wp2_with fail
  refine hof.mono ?_
  rintro e w' ⟨rfl, hK⟩
  go_wp2_with fail
  go_ret
  exact ⟨rfl, hK⟩
set_option maxHeartbeats 400000 in
theorem in_nil (w : World) : Calls Tryd.prog 44 #[.pointer none] w fun e w' => e = .returned (.int .u64 0) ∧ w = w' := by
  go_enter Tryd.func44, Tryd.ntmps44
  go_wp2
  go_ret
  exact ⟨rfl, rfl⟩
set_option maxHeartbeats 400000 in
theorem in_any {w : World} {p : Nat} {S : SSt} (h : SectAt w p S) : Calls Tryd.prog 44 #[.pointer (some ⟨p, 0, none⟩)] w fun e w' => e = .returned (.int .u64 (S.m : Nat)) ∧ w = w' := by
  have hi := h.cIn
  go_enter Tryd.func44, Tryd.ntmps44
  go_wp2
  go_ret
  exact ⟨rfl, rfl⟩
set_option maxHeartbeats 400000 in
theorem stamp_nil (w : World) : Calls Tryd.prog 82 #[.pointer none] w fun e w' => e = .returned (.int .i64 0) ∧ w = w' := by
  go_enter Tryd.func82, Tryd.ntmps82
  go_wp2
  go_ret
  exact ⟨rfl, rfl⟩
set_option maxHeartbeats 400000 in
theorem stamp_any {w : World} {p : Nat} {S : SSt} (h : SectAt w p S) : Calls Tryd.prog 82 #[.pointer (some ⟨p, 0, none⟩)] w fun e w' => e = .returned (.int .i64 (S.st : Nat)) ∧ w = w' := by
  have hi := h.cSt
  go_enter Tryd.func82, Tryd.ntmps82
  go_wp2
  go_ret
  exact ⟨rfl, rfl⟩
end Go.Proofs.YtefippjakkgjkaaDoor
