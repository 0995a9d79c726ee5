/- The law SectNests: what its walk comes to. -/
import Derived.Test.YtjinekckpgincaaDoorLaw09d
namespace Go.Proofs.YtjinekckpgincaaDoor
open Go.RowKit Go.Shelf

/-- One goes deeper. -/
theorem nest_in {T : SSt} (h : T.Ok) (K d : Nat) (hK : K < 64) (hd : T.dep K = d) (h8 : d < 8) (h0 : d = 0 → T.st = 0) (h1 : 0 < d → T.sin K = 1 ∧ T.st = 1) :
    T.entE K = 0 ∧ (T.ent K).dep K = d + 1 ∧ (T.ent K).sin K = 1 ∧ (T.ent K).st = 1 ∧ (T.ent K).sinI K = 1 ∧ (T.ent K).depI K = ((d + 1 : Nat) : Int) := by
  have hE : T.entE K = 0 := by unfold SSt.entE; rw [if_pos (by omega), Int.toNat_natCast, if_neg (by omega)]
  obtain ⟨c, e1, e2, hc⟩ := h.stepped ((K : Int), false) (by simpa [SSt.stepE] using hE)
  have hsp : T.step ((K : Int), false) = T.ent K := rfl
  rw [hsp] at hc
  simp only at e1
  obtain rfl : K = c := by omega
  rcases hc with ⟨h', _⟩ | ⟨_, _, hs, hj⟩
  · cases h'
  · have a1 : (T.ent K).dep K = d + 1 := by rw [(hj K).1, if_pos rfl, hd]
    have a2 : (T.ent K).sin K = 1 := by
      rw [(hj K).2]
      by_cases e : T.dep K = 0
      · rw [if_pos ⟨rfl, e⟩]; have := h0 (by omega); omega
      · rw [if_neg (fun x => e x.2)]; exact (h1 (by omega)).1
    have a3 : (T.ent K).st = 1 := by
      rw [hs]
      by_cases e : T.dep K = 0
      · rw [if_pos e]; have := h0 (by omega); omega
      · rw [if_neg e]; exact (h1 (by omega)).2
    refine ⟨hE, a1, a2, a3, ?_, ?_⟩
    · unfold SSt.sinI; rw [if_pos (by omega), Int.toNat_natCast, a2]; rfl
    · unfold SSt.depI; rw [if_pos (by omega), Int.toNat_natCast, a1]
/-- One goes less deep. -/
theorem nest_out {T : SSt} (h : T.Ok) (K d : Nat) (hK : K < 64) (hd : T.dep K = d + 1) :
    T.exiE K = 0 ∧ T.exiB K = decide (d = 0) ∧ (T.exi K).dep K = d ∧ (T.exi K).st = T.st ∧ hasN (T.exi K).m K = decide (0 < d) := by
  have hE : T.exiE K = 0 := by unfold SSt.exiE; rw [if_pos (by omega), Int.toNat_natCast, if_neg (by omega)]
  obtain ⟨c, e1, e2, hc⟩ := h.stepped ((K : Int), true) (by simpa [SSt.stepE] using hE)
  have hsp : T.step ((K : Int), true) = T.exi K := rfl
  rw [hsp] at hc
  simp only at e1
  obtain rfl : K = c := by omega
  rcases hc with ⟨_, _, hs, hj⟩ | ⟨h', _⟩
  · have a1 : (T.exi K).dep K = d := by rw [(hj K).1, if_pos rfl, hd]; omega
    refine ⟨hE, ?_, a1, hs, ?_⟩
    · unfold SSt.exiB; rw [decide_eq_true (show (0 : Int) ≤ (K : Int) ∧ (K : Int) < 64 by omega), Bool.true_and, Int.toNat_natCast, decide_eq_decide]; omega
    · rw [(h.exi K).bits K hK, a1]
  · cases h'

set_option maxRecDepth 100000 in
set_option maxHeartbeats 4000000 in
theorem lawNests_any (r n : Int) (w : World) (hT : TabAt w) :
    Calls Tryd.prog 7 #[.int .i64 r, .int .i64 n] w fun e w' => e = .returned (.bool true) ∧ Keeps w w' := by
  obtain ⟨K, hK64, e1⟩ := wrap_mod r 64 (by decide)
  obtain ⟨N, hN8, e2⟩ := wrap_mod n 8 (by decide)
  have hz := zeroSect
  replace hT := Lib.hid hT
  go_enter Tryd.func7, Tryd.ntmps7
  go_upto_region 3 with (fail)
  refine wp_gen (fun W => SectAt W w.heap.size .init ∧ Keeps w W) ⟨sect_new w, Keeps.alloc _ _⟩ ?_
  rintro W1 ⟨hS, hK⟩
  clear hz e1 e2
  generalize hp : w.heap.size = p at *
  have hkD : ∀ (W W' : World), Keeps w W → Chg (· = p) W W' → Keeps w W' := fun W W' hk hc => Chg.keeps hc hk (fun k hk => by omega)
  replace hkD := Lib.hid hkD
  replace hS := Lib.hid hS
  replace hK := Lib.hid hK
  replace hp := Lib.hid hp
  go_wp2_with fail
  go_loopw [6] (fun i wr => ∃ (k : Nat) (T : SSt), k ≤ 1 + N ∧ i = .int .i64 k ∧ SectAt wr p T ∧ Keeps w wr ∧ T.dep K = k ∧ (k = 0 → T.st = 0) ∧ (0 < k → T.sin K = 1 ∧ T.st = 1)) (fun i _ => 1 + N - (intOf i).toNat)
  case atStart => exact ⟨0, .init, Nat.zero_le _, rfl, hS.out, hK.out, SSt.init_dep K, fun _ => rfl, fun h => absurd h (Nat.lt_irrefl 0)⟩
  case round =>
    clear hS hK
    obtain ⟨k, T, hk, rfl, hS, hK, hd, h0, h1⟩ := hrel
    by_cases hlt : k < 1 + N
    · obtain ⟨a1, a2, a3, a4, a5, a6⟩ := nest_in hS.ok K k (by omega) hd (by omega) h0 h1
      have hen := enterOne hS (by by_cases e : k = 0; · have := h0 e; omega
                                  · have := (h1 (by omega)).2; omega) (K : Int)
      rw [a1] at hen
      generalize T.ent K = T2 at *
      have hsi := fun (W : World) (h : SectAt W p T2) => since_any h (K : Int)
      have hde := fun (W : World) (h : SectAt W p T2) => depth_any h (K : Int)
      rw [a5] at hsi
      rw [a6, show ((k + 1 : Nat) : Int) = (k : Int) + 1 by omega] at hde
      have hltI : (k : Int) < 1 + (N : Int) := by omega
      replace hen := Lib.hid hen
      replace hsi := Lib.hid hsi
      replace hde := Lib.hid hde
      replace hK := Lib.hid hK
      replace a2 := Lib.hid a2
      replace a3 := Lib.hid a3
      replace a4 := Lib.hid a4
      clear hS hd h0 h1 a1 a5 a6
      go_wp2_with fail
      refine hen.out.mono ?_
      rintro e w2 ⟨rfl, hS2, hC⟩
      have hK2 := hkD.out _ _ hK.out hC
      replace hS2 := Lib.hid hS2
      replace hK2 := Lib.hid hK2
      clear hC hen
      go_wp2_with fail
      refine (hsi.out _ hS2.out).mono ?_
      rintro e w3 ⟨rfl, hK3⟩
      replace hS2 := Lib.hid (hS2.out.keeps hK3)
      replace hK2 := Lib.hid (Keeps.trans hK2.out hK3)
      clear hK3
      go_wp2_with fail
      refine (hde.out _ hS2.out).mono ?_
      rintro e w4 ⟨rfl, hK3⟩
      replace hS2 := Lib.hid (hS2.out.keeps hK3)
      replace hK2 := Lib.hid (Keeps.trans hK2.out hK3)
      clear hK3
      go_wp2_with fail
      go_roundw
      case rel => exact ⟨k + 1, T2, by omega, by go_num, hS2.out, hK2.out, a2.out, fun h => absurd h (Nat.succ_ne_zero k), fun _ => ⟨a3.out, a4.out⟩⟩
      case measure => (simp [intOf]; try omega)
    · obtain rfl : k = 1 + N := by omega
      have hst := (h1 (by omega)).2
      clear h0 h1
      have hltI : ¬ ((1 + N : Nat) : Int) < 1 + (N : Int) := by omega
      have hE3 : N = 7 → T.entE K = 3 ∧ T.ent K = T := fun h => SSt.entE_8 (by omega) (by omega)
      have hen := enterOne hS (by omega) (K : Int)
      replace hen := Lib.hid hen
      replace hE3 := Lib.hid hE3
      replace hK := Lib.hid hK
      replace hS := Lib.hid hS
      replace hst := Lib.hid hst
      replace hd := Lib.hid hd
      by_cases h8 : N = 7
      all_goals
        first
          | (have hb : ((1 + (N : Int)) == 8) = true := by (simp; omega)
             have h3 := hen.out
             rw [(hE3.out h8).1, (hE3.out h8).2] at h3
             replace h3 := Lib.hid h3
             replace h8 := Lib.hid h8
             go_wp2_with fail
             refine h3.out.mono ?_
             rintro e w2 ⟨rfl, hS2, hC⟩
             have hK2 := hkD.out _ _ hK.out hC
             replace hS2 := Lib.hid hS2
             replace hK2 := Lib.hid hK2
             clear hC
             go_upto_region 10 with fail
             refine wp_gen (fun W => SectAt W p T ∧ Keeps w W) ⟨hS2.out, hK2.out⟩ ?_
             clear hS2 hK2)
          | (have hb : ((1 + (N : Int)) == 8) = false := by (simp; omega)
             replace h8 := Lib.hid h8
             go_upto_region 10 with fail
             refine wp_gen (fun W => SectAt W p T ∧ Keeps w W) ⟨hS.out, hK.out⟩ ?_)
        clear hS hK hen hE3 hb
        rintro W3 ⟨hS, hK⟩
        replace hS := Lib.hid hS
        replace hK := Lib.hid hK
        go_wp2_with fail
        go_loopw [7] (fun i wr => ∃ (j : Nat) (T : SSt), j ≤ 1 + N ∧ i = .int .i64 j ∧ SectAt wr p T ∧ Keeps w wr ∧ T.dep K = 1 + N - j ∧ T.st = 1) (fun i _ => 1 + N - (intOf i).toNat)
        case atStart => exact ⟨0, T, Nat.zero_le _, rfl, hS.out, hK.out, hd.out, hst.out⟩
        case round =>
          clear hS hK hd hst
          obtain ⟨j, T, hj, rfl, hS, hK, hd, hst⟩ := hrel
          by_cases hlt : j < 1 + N
          · obtain ⟨a1, a2, a3, a4, a5⟩ := nest_out hS.ok K (N - j) (by omega) (by omega)
            have hex := exit_any hS (K : Int)
            rw [a1, a2] at hex
            have hok2 := hS.ok.exi (K : Int)
            rw [hst] at a4
            generalize T.exi K = T2 at *
            have hin := fun (W : World) (h : SectAt W p T2) => in_any h
            have hha := fun (W : World) => has_any T2.m (K : Int) W hok2.word
            rw [a5] at hha
            have hltI : (j : Int) < 1 + (N : Int) := by omega
            generalize T2.m = m2 at *
            replace hin := Lib.hid hin
            replace hha := Lib.hid hha
            replace hK := Lib.hid hK
            replace a3 := Lib.hid a3
            replace a4 := Lib.hid a4
            clear hS hd hst a1 a2 a5 hok2
            by_cases hl : N - j = 0
            all_goals
              first
                | (rw [decide_eq_true hl] at hex
                   have hh2 := hha.out
                   rw [decide_eq_false (show ¬ 0 < N - j by omega)] at hh2
                   have hb : ((j : Int) == 1 + (N : Int) - 1) = true := by (simp; omega))
                | (rw [decide_eq_false hl] at hex
                   have hh2 := hha.out
                   rw [decide_eq_true (show 0 < N - j by omega)] at hh2
                   have hb : ((j : Int) == 1 + (N : Int) - 1) = false := by (simp; omega))
              replace hex := Lib.hid hex
              replace hh2 := Lib.hid hh2
              replace hl := Lib.hid hl
              clear hha
              go_wp2_with fail
              refine hex.out.mono ?_
              rintro e w2 ⟨rfl, hS2, hC⟩
              have hK2 := hkD.out _ _ hK.out hC
              have hin2 := hin.out _ hS2
              replace hS2 := Lib.hid hS2
              replace hK2 := Lib.hid hK2
              replace hin2 := Lib.hid hin2
              clear hC hex
              go_wp2_with fail
              refine hin2.out.mono ?_
              rintro e w3 ⟨rfl, rfl⟩
              go_wp2_with fail
              refine (hh2.out _).mono ?_
              rintro e w3 ⟨rfl, rfl⟩
              go_wp2_with fail
              go_roundw
              case rel => exact ⟨j + 1, T2, by omega, by go_num, hS2.out, hK2.out, by rw [a3.out]; omega, a4.out⟩
              case measure => (simp [intOf]; try omega)
          · obtain rfl : j = 1 + N := by omega
            have hltI : ¬ ((1 + N : Nat) : Int) < 1 + (N : Int) := by omega
            have hex := exit_any hS (K : Int)
            obtain ⟨b1, b2, b3⟩ := SSt.exiE_0 (S := T) (r := K) (by omega) (by omega)
            rw [b1, b2, b3] at hex
            have hsta := fun (W : World) (h : SectAt W p T) => stamp_any h
            rw [hst] at hsta
            replace hex := Lib.hid hex
            replace hsta := Lib.hid hsta
            replace hK := Lib.hid hK
            clear hS hd hst b1 b2 b3
            go_wp2_with fail
            refine hex.out.mono ?_
            rintro e w2 ⟨rfl, hS2, hC⟩
            have hK2 := hkD.out _ _ hK.out hC
            replace hS2 := Lib.hid hS2
            replace hK2 := Lib.hid hK2
            clear hC hex
            go_wp2_with fail
            refine (known09_any _ (hT.out.keeps hK2.out)).mono ?_
            rintro e w3 ⟨rfl, hK3⟩
            have hs3 := hsta.out _ (hS2.out.keeps hK3)
            replace hK2 := Lib.hid (Keeps.trans hK2.out hK3)
            replace hs3 := Lib.hid hs3
            clear hK3
            go_wp2_with fail
            refine hs3.out.mono ?_
            rintro e w4 ⟨rfl, rfl⟩
            go_wp2_with fail
            go_ret
            exact ⟨rfl, hK2.out⟩
end Go.Proofs.YtjinekckpgincaaDoor
