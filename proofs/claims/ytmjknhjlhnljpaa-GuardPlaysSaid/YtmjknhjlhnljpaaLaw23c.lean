/- The law GuardApart: what its walk comes to. -/
import Derived.Test.YtmjknhjlhnljpaaLaw23b
namespace Go.Proofs.Ytmjknhjlhnljpaa
open Go.RowKit Go.Shelf

/-- The law's last entering: a miss if the other program is the same, none otherwise. -/
theorem enter_other {p b K P C O : Nat} {cs : List Nat} {w : World} (hG : GuardAt w p b (List.replicate (1 + K) (orN 0 P)) cs) (hC : C < 1 + K) (hO : O < 16) :
    Calls Try.prog 12 #[.pointer (some ⟨p, 0, none⟩), .int .i64 C, .int .i64 O] w fun e w' => e = .returned (.int .i64 (if O = P then 18 else 0)) ∧ (∃ ms cs, GuardAt w' p b ms cs ∧ C < ms.length ∧ ms.getD C 0 = withN 0 [(P : Int), (O : Int)]) ∧ Mut p b w w' := by
  have hg : (List.replicate (1 + K) (orN 0 P)).getD C 0 = orN 0 P := getD_replicate _ _ _ _ hC
  by_cases h : O = P
  · subst h
    rw [if_pos rfl]
    refine (enter_miss hG C O (by simpa using hC) hO (by rw [hg, has_one O O (by omega)]; simp)).mono fun e w' ⟨he, h1, h2⟩ => ⟨he, ⟨_, _, h1, by simpa using hC, ?_⟩, h2⟩
    rw [hg, with_same]
  · rw [if_neg h]
    refine (enter_ok hG C O (by simpa using hC) hO (by rw [hg, has_one P O (by omega)]; simpa using h)).mono fun e w' ⟨he, h1, h2⟩ => ⟨he, ⟨_, _, h1, by simpa using hC, ?_⟩, h2⟩
    rw [getD_set_self _ _ _ _ (by simpa using hC), hg]; rfl

set_option maxRecDepth 100000 in
set_option maxHeartbeats 2000000 in
theorem lawApart_any (cpus cpu prog other : Int) (w : World) :
    Calls Try.prog 6 #[.int .i64 cpus, .int .i64 cpu, .int .i64 prog, .int .i64 other] w fun e w' => e = .returned (.bool true) ∧ Keeps w w' := by
  obtain ⟨K, hK, e1⟩ := wrap_mod cpus 64 (by decide)
  obtain ⟨P, hP, e2⟩ := wrap_mod prog 16 (by decide)
  obtain ⟨O, hO, e3⟩ := wrap_mod other 16 (by decide)
  obtain ⟨C, hC, e4⟩ := wrap_mod cpu (1 + (K : Int)) (by omega)
  have hnew := gnew_yes (1 + K) w (by omega) (by omega)
  rw [show ((1 + K : Nat) : Int) = 1 + (K : Int) by omega] at hnew
  replace hnew := Lib.hid hnew
  go_enter Try.func6, Try.ntmps6
  go_wp2_with fail
  refine hnew.out.mono ?_
  rintro e w1 ⟨rfl, hG, hKw⟩
  obtain ⟨p, hpe⟩ : ∃ p, p = w.heap.size + 1 := ⟨_, rfl⟩
  obtain ⟨b, hbe⟩ : ∃ b, b = w.heap.size := ⟨_, rfl⟩
  have hpl : w.heap.size ≤ p := by omega
  have hbl : w.heap.size ≤ b := by omega
  rw [← hpe, ← hbe] at hG
  rw [← hpe]
  clear hpe hbe hnew e1 e2 e3 e4
  rw [← apart_zero K P C] at hG
  replace hG := Lib.hid hG
  replace hKw := Lib.hid hKw
  go_wp2_with fail
  go_loopw [11] (fun i wr => ∃ k : Nat, k ≤ 1 + K ∧ i = .int .i64 k ∧ GuardAt wr p b (apart K P C k) (List.replicate 16 0) ∧ Keeps w wr) (fun i _ => 1 + K - (intOf i).toNat)
  case atStart => exact ⟨0, Nat.zero_le _, rfl, hG.out, hKw.out⟩
  case round =>
    clear hG hKw
    obtain ⟨k, hk, rfl, hG, hKw⟩ := hrel
    by_cases hlt : k < 1 + K
    · have hlt' : (k : Int) < 1 + (K : Int) := by omega
      by_cases hkC : k = C
      · have hb : ((k : Int) != (C : Int)) = false := by simp [hkC]
        rw [← apart_same K P C k hkC] at hG
        replace hG := Lib.hid hG
        replace hKw := Lib.hid hKw
        replace hkC := Lib.hid hkC
        go_wp2_with fail
        go_roundw
        case rel => exact ⟨k + 1, by omega, by go_num, hG.out, hKw.out⟩
        case measure => (simp [intOf]; try omega)
      · have hb : ((k : Int) != (C : Int)) = true := by simp; omega
        have hok := enter_ok hG k P (by rw [apart_len]; exact hlt) (by omega) (by rw [apart_get _ _ _ _ _ hlt, if_neg (by omega)]; exact hasN_zero _)
        rw [apart_succ K P C k hlt hkC] at hok
        replace hok := Lib.hid hok
        replace hKw := Lib.hid hKw
        replace hkC := Lib.hid hkC
        clear hG
        go_wp2_with fail
        refine hok.out.mono ?_
        rintro e w3 ⟨rfl, hG, hM⟩
        replace hKw := Lib.hid (hM.after hKw.out hpl hbl)
        replace hG := Lib.hid hG
        clear hok hM
        go_wp2_with fail
        go_roundw
        case rel => exact ⟨k + 1, by omega, by go_num, hG.out, hKw.out⟩
        case measure => (simp [intOf]; try omega)
    · have hlt' : ¬ (k : Int) < 1 + (K : Int) := by omega
      obtain rfl : k = 1 + K := by omega
      have hon := on_any hG (P : Int)
      rw [apart_on K P C (by omega)] at hon
      have hlen := apart_len K P C (1 + K)
      have hC' : C < 1 + K := by omega
      have hget : (apart K P C (1 + K)).getD C 0 = 0 := by rw [apart_get _ _ _ _ _ hC', if_neg (by omega)]
      have hend := apart_end K P C hC'
      rw [hget] at hend
      rw [show ((1 + K : Nat) : Int) = 1 + (K : Int) by omega] at hon
      generalize apart K P C (1 + K) = ms at *
      have hful := fun W => full_any (1 + (K : Int)) W
      have hwo := fun W (h : Ints W (.slice (some ⟨W.heap.size, 0, none⟩) 1 1) [(C : Int)]) => h
      have hwi := fun (W : World) => without_any (fullN (1 + (K : Int))) (.slice (some ⟨W.heap.size, 0, none⟩) 1 1) [(C : Int)] (W.alloc (.cells #[.int .i64 (C : Int)] 3)) (fullN_lt _) (ints_at W 3 [(C : Int)] _ rfl (by simp [maxLen]))
      clear hwo
      generalize withoutN (fullN (1 + (K : Int))) [(C : Int)] = m1 at *
      replace hon := Lib.hid hon
      replace hful := Lib.hid hful
      replace hwi := Lib.hid hwi
      replace hG := Lib.hid hG
      replace hKw := Lib.hid hKw
      replace hlen := Lib.hid hlen
      replace hget := Lib.hid hget
      replace hend := Lib.hid hend
      go_wp2_with fail
      refine hon.out.mono ?_
      rintro e w3 ⟨rfl, hK3⟩
      replace hG := Lib.hid (hG.out.keeps hK3)
      replace hKw := Lib.hid (Keeps.trans hKw.out hK3)
      clear hK3 hon
      go_wp2_with fail
      refine (hful.out _).mono ?_
      rintro e w4 ⟨rfl, rfl⟩
      go_wp2_with fail
      refine (hwi.out _).mono ?_
      rintro e w4 ⟨rfl, rfl⟩
      have hKA := Keeps.alloc w3 (.cells #[.int .i64 (C : Int)] 3)
      replace hG := Lib.hid (hG.out.keeps hKA)
      replace hKw := Lib.hid (Keeps.trans hKw.out hKA)
      clear hKA hwi
      have hok := enter_ok hG.out C P (by rw [hlen.out]; exact hC') (by omega) (by rw [hget.out]; exact hasN_zero _)
      rw [hget.out, hend.out] at hok
      replace hok := Lib.hid hok
      clear hG
      go_wp2_with fail
      refine hok.out.mono ?_
      rintro e w4 ⟨rfl, hG, hM⟩
      replace hKw := Lib.hid (hM.after hKw.out hpl hbl)
      clear hok hM
      have hon := on_any hG (P : Int)
      rw [full_on K P (by omega), show ((1 + K : Nat) : Int) = 1 + (K : Int) by omega] at hon
      generalize fullN (1 + (K : Int)) = m2 at *
      replace hon := Lib.hid hon
      replace hG := Lib.hid hG
      go_wp2_with fail
      refine hon.out.mono ?_
      rintro e w5 ⟨rfl, hK5⟩
      replace hG := Lib.hid (hG.out.keeps hK5)
      replace hKw := Lib.hid (Keeps.trans hKw.out hK5)
      clear hK5 hon
      go_wp2_with fail
      refine (hful.out _).mono ?_
      rintro e w6 ⟨rfl, rfl⟩
      have htot := total_any hG.out
      rw [show sumTo (List.replicate 16 0) 16 = 0 by decide] at htot
      replace htot := Lib.hid htot
      clear hful
      go_wp2_with fail
      refine htot.out.mono ?_
      rintro e w6 ⟨rfl, rfl⟩
      clear htot
      have hl : lenN (withN 0 [(P : Int), (O : Int)]) ≤ 64 := by unfold lenN; exact listN_len _
      have hlt3 : withN 0 [(P : Int), (O : Int)] < 18446744073709551616 := withN_lt _ _ (by decide)
      by_cases hOP : O = P
      all_goals
        have hOP' := hOP
        replace hOP' := Lib.hid hOP'
        first
          | (have hb : ((O : Int) == (P : Int)) = true := by (simp; omega))
          | (have hb : ((O : Int) == (P : Int)) = false := by (simp; omega))
        clear hOP
        go_wp2_with fail
        refine (known23_any _).mono ?_
        rintro e w7 ⟨rfl, hK7⟩
        have hent := enter_other (C := C) (O := O) (hG.out.keeps hK7) hC' (by omega)
        replace hKw := Lib.hid (Keeps.trans hKw.out hK7)
        first | rw [if_pos hOP'.out] at hent | rw [if_neg hOP'.out] at hent
        replace hent := Lib.hid hent
        clear hK7
        go_wp2_with fail
        refine hent.out.mono ?_
        rintro e w8 ⟨rfl, ⟨ms2, cs2, hG2, hC2, hg2⟩, hM⟩
        replace hKw := Lib.hid (hM.after hKw.out hpl hbl)
        have hex := exit_yes (hG2.keeps (Keeps.alloc w8 (.cells #[.int .i64 (P : Int), .int .i64 (O : Int), .int .i64 (P : Int)] 3))) C hC2 _ [(P : Int), (O : Int), (P : Int)] (ints_at w8 3 [(P : Int), (O : Int), (P : Int)] _ rfl (by simp [maxLen]))
        have hg3 := getD_set_self ms2 C 0 0 hC2
        rw [hg2, without_three, lenN_zero', Int.natCast_zero, Int.sub_zero] at hex
        have hof := fun (W : World) => of_any (.slice (some ⟨W.heap.size, 0, none⟩) 2 2) [(P : Int), (O : Int)] (W.alloc (.cells #[.int .i64 (P : Int), .int .i64 (O : Int)] 3)) (ints_at W 3 [(P : Int), (O : Int)] _ rfl (by simp [maxLen]))
        have hln := fun (W : World) => len_any (withN 0 [(P : Int), (O : Int)]) W hlt3
        replace hex := Lib.hid hex
        replace hof := Lib.hid hof
        replace hln := Lib.hid hln
        replace hg3 := Lib.hid hg3
        clear hM hG hent hg2
        generalize withN 0 [(P : Int), (O : Int)] = m3 at *
        go_wp2_with fail
        refine hex.out.mono ?_
        rintro e w9 ⟨rfl, hG, hM⟩
        replace hKw := Lib.hid (hM.after (Keeps.trans hKw.out (Keeps.alloc _ _)) hpl hbl)
        clear hM hex
        replace hG := Lib.hid hG
        go_wp2_with fail
        refine (hof.out _).mono ?_
        rintro e w10 ⟨rfl, rfl⟩
        go_wp2_with fail
        refine (hln.out _).mono ?_
        rintro e w10 ⟨rfl, rfl⟩
        have hG4 := hG.out.keeps (Keeps.alloc w9 (.cells #[.int .i64 (P : Int), .int .i64 (O : Int)] 3))
        have hact := active_yes hG4 C (by simpa using hC2)
        rw [hg3.out] at hact
        replace hact := Lib.hid hact
        clear hG4
        go_wp2_with fail
        refine hact.out.mono ?_
        rintro e w10 ⟨rfl, rfl⟩
        go_wp2_with fail
        go_ret
        exact ⟨rfl, Keeps.trans hKw.out (Keeps.alloc _ _)⟩
end Go.Proofs.Ytmjknhjlhnljpaa
