/- The laws SectStays, SectNests: what their walks come to. -/
import Derived.Test.YtjinekckpgincaaDoorLaw09c
import Derived.Test.YtjinekckpgincaaDoorModn
namespace Go.Proofs.YtjinekckpgincaaDoor
open Go.RowKit Go.Shelf

theorem openN_bit {S : SSt} (h : S.Ok) (s : Int) (j : Nat) (hj : j < 64) : (openN S s).testBit j = (decide (0 < S.dep j) && decide ((S.sin j : Int) ≤ s)) := by
  unfold openN
  rw [testBit_withN j hj, Nat.zero_testBit, Bool.false_or, Bool.eq_iff_iff, decide_eq_true_eq]
  have := mem_castL (openTo S s (listN S.m).length) j
  unfold castL at this
  rw [this]
  unfold openTo
  rw [List.take_length, List.mem_filter, mem_listN, Bool.and_eq_true]
  have hb := h.bits j hj
  simp only [hasN, Int.toNat_natCast] at hb
  rw [decide_eq_true (show (0 : Int) ≤ (j : Int) ∧ (j : Int) < 64 by omega), Bool.true_and] at hb
  rw [hb]
  exact and_congr_left fun _ => ⟨fun h1 => h1.2, fun h1 => ⟨hj, h1⟩⟩
theorem openN_lt (S : SSt) (s : Int) : openN S s < 18446744073709551616 := withN_lt _ _ (by decide)
theorem openN_full {S : SSt} (h : S.Ok) : openN S (S.st : Nat) = S.m := by
  refine eq_of_bits _ _ (openN_lt _ _) h.word fun j hj => ?_
  rw [openN_bit h _ j hj, decide_eq_true (show (S.sin j : Int) ≤ (S.st : Nat) by have := h.sle j; omega), Bool.and_true]
  have hb := h.bits j hj
  simp only [hasN, Int.toNat_natCast] at hb
  rw [decide_eq_true (show (0 : Int) ≤ (j : Int) ∧ (j : Int) < 64 by omega), Bool.true_and] at hb
  exact hb.symm
theorem openN_exi {S : SSt} (h : S.Ok) (s : Nat) (r : Int) : openN (S.exi r) s = if S.exiB r = true then withoutN (openN S s) [r] else openN S s := by
  by_cases hE : S.exiE r = 0
  · obtain ⟨k, e1, e2, hc⟩ := h.stepped (r, true) (by simpa [SSt.stepE] using hE)
    simp only at e1
    subst e1
    have hst : S.step ((k : Int), true) = S.exi k := rfl
    rw [hst] at hc
    rcases hc with ⟨_, hd, hs, hj⟩ | ⟨h', _⟩
    · have hB : S.exiB k = decide (S.dep k = 1) := by unfold SSt.exiB; rw [decide_eq_true (show (0 : Int) ≤ (k : Int) ∧ (k : Int) < 64 by omega), Bool.true_and, Int.toNat_natCast]
      rw [hB]
      by_cases h1 : S.dep k = 1
      · rw [if_pos (decide_eq_true h1)]
        refine eq_of_bits _ _ (openN_lt _ _) (withoutN_lt _ _ (openN_lt _ _)) fun j hjj => ?_
        rw [openN_bit (h.exi k) _ j hjj, testBit_withoutN j hjj, openN_bit h _ j hjj, (hj j).1, (hj j).2]
        by_cases e : k = j
        · subst e; rw [if_pos rfl, h1]; simp
        · rw [if_neg e, if_neg (fun x => e x.1)]
          have : ¬ (j : Int) ∈ [(k : Int)] := by simp; omega
          rw [decide_eq_false this]; simp
      · rw [if_neg (by simpa using h1)]
        refine eq_of_bits _ _ (openN_lt _ _) (openN_lt _ _) fun j hjj => ?_
        rw [openN_bit (h.exi k) _ j hjj, openN_bit h _ j hjj, (hj j).1, (hj j).2]
        by_cases e : k = j
        · subst e; rw [if_pos rfl, if_neg (fun x => h1 x.2)]; congr 1; rw [decide_eq_decide]; omega
        · rw [if_neg e, if_neg (fun x => e x.1)]
    · cases h'
  · rw [SSt.exi_bad hE, if_neg]
    intro hB
    unfold SSt.exiB at hB
    simp only [Bool.and_eq_true, decide_eq_true_eq] at hB
    exact hE (by unfold SSt.exiE; rw [if_pos hB.1, if_neg (by omega)])
theorem openN_ent {S : SSt} (h : S.Ok) (s : Nat) (hs : s ≤ S.st) (r : Int) : openN (S.ent r) s = openN S s := by
  by_cases hE : S.entE r = 0
  · obtain ⟨k, e1, e2, hc⟩ := h.stepped (r, false) (by simpa [SSt.stepE] using hE)
    simp only at e1
    subst e1
    have hst : S.step ((k : Int), false) = S.ent k := rfl
    rw [hst] at hc
    rcases hc with ⟨h', _⟩ | ⟨_, hd, _, hj⟩
    · cases h'
    · refine eq_of_bits _ _ (openN_lt _ _) (openN_lt _ _) fun j hjj => ?_
      rw [openN_bit (h.ent k) _ j hjj, openN_bit h _ j hjj, (hj j).1, (hj j).2]
      by_cases e : k = j
      · subst e
        by_cases h0 : S.dep k = 0
        · rw [if_pos rfl, if_pos ⟨rfl, h0⟩, h0, decide_eq_false (show ¬ ((S.st + 1 : Nat) : Int) ≤ (s : Int) by omega)]; simp
        · rw [if_pos rfl, if_neg (fun x => h0 x.2)]; congr 1; rw [decide_eq_decide]; omega
      · rw [if_neg e, if_neg (fun x => e x.1)]
  · rw [SSt.ent_bad hE]
theorem ents_one (S : SSt) (r : Int) : (S.ents [r]).2 = S.entE r ∧ (S.ents [r]).1 = S.ent r := by
  rw [SSt.ents_cons]
  split
  · rename_i h; exact ⟨h.symm, rfl⟩
  · rename_i h; exact ⟨rfl, (SSt.ent_bad h).symm⟩
/-- One enters, as the laws call it. -/
theorem enterOne {w : World} {p : Nat} {S : SSt} (h : SectAt w p S) (hst : S.st < 1000) (r : Int) :
    Calls Tryd.prog 10 #[.pointer (some ⟨p, 0, none⟩), .slice (some ⟨w.heap.size, 0, none⟩) 1 1] (w.alloc (.cells #[.int .i64 r] 3)) fun e w' => e = .returned (.int .i64 (S.entE r)) ∧ SectAt w' p (S.ent r) ∧ Chg (· = p) w w' := by
  have := enters_any (h.keeps (Keeps.alloc w (.cells #[.int .i64 r] 3))) (.slice (some ⟨w.heap.size, 0, none⟩) 1 1) [r] (ints_at w 3 [r] _ rfl (by simp [maxLen])) (fun b hb _ => by
    have := h.hdr.lt
    simp only [Value.ownBlock, Option.some.injEq] at hb; omega) (by simp; omega)
  rw [(ents_one S r).1, (ents_one S r).2] at this
  exact this.mono fun e w' ⟨h1, h2, h3⟩ => ⟨h1, h2, (Chg.of_keeps (Keeps.alloc _ _)).trans h3⟩

set_option maxRecDepth 100000 in
set_option maxHeartbeats 4000000 in
theorem lawStays_any (fv : Value) (first : List Int) (v : Value) (acts : List (Int × Bool)) (w : World) (hf : Ints w fv first) (hv : Deeds w v acts) (hT : TabAt w) :
    Calls Tryd.prog 5 #[fv, v] w fun e w' => e = .returned (.bool true) ∧ Keeps w w' := by
  obtain ⟨ap, acap, rfl, hal, hac, hcell⟩ := hv.get
  obtain ⟨fp, fcap, rfl, hfl, hfc, hfcell⟩ := hf.open
  have hz := zeroSect
  replace hT := Lib.hid hT
  replace hcell := Lib.hid hcell
  replace hfcell := Lib.hid hfcell
  clear hv hf
  go_enter Tryd.func5, Tryd.ntmps5
  go_upto_region 2 with (fail)
  refine wp_gen (fun W => SectAt W w.heap.size .init ∧ Keeps w W) ⟨sect_new w, Keeps.alloc _ _⟩ ?_
  rintro W1 ⟨hS, hK⟩
  clear hz
  generalize hp : w.heap.size = p at *
  have hkD : ∀ (W W' : World), Keeps w W → Chg (· = p) W W' → Keeps w W' := fun W W' hk hc => Chg.keeps hc hk (fun k hk => by omega)
  replace hkD := Lib.hid hkD
  replace hS := Lib.hid hS
  replace hK := Lib.hid hK
  replace hp := Lib.hid hp
  go_wp2_with fail
  go_loopw [6] (fun i wr => ∃ (k : Nat) (S : SSt), k ≤ first.length ∧ k ≤ 40 ∧ i = .int .i64 k ∧ SectAt wr p S ∧ Keeps w wr ∧ S.st ≤ k) (fun i _ => first.length - (intOf i).toNat)
  case atStart => exact ⟨0, .init, Nat.zero_le _, Nat.zero_le _, rfl, hS.out, hK.out, Nat.le_refl _⟩
  case round =>
    clear hS hK
    obtain ⟨k, S, hk, hk40, rfl, hS, hK, hst⟩ := hrel
    have hgo : (k < first.length ∧ k < 40) ∨ (k = first.length ∨ (k < first.length ∧ k = 40)) := by omega
    rcases hgo with ⟨hlt, h40⟩ | hend
    · obtain ⟨b, off, rfl, c0⟩ := hfcell.out k hlt
      have d0 := (hK.cell (p := ⟨b, off + k, none⟩) (cell_lt c0)).trans c0
      generalize first[k] = z at *
      have hen := enterOne hS (by omega) z
      have hst1 := SSt.ent_st S z
      generalize S.ent z = S2 at *
      generalize S.entE z = E at *
      replace hen := Lib.hid hen
      replace hK := Lib.hid hK
      clear hS c0
      go_wp2_with fail
      refine hen.out.mono ?_
      rintro e w2 ⟨rfl, hS2, hC2⟩
      have hK2 := hkD.out _ _ hK.out hC2
      replace hS2 := Lib.hid hS2
      replace hK2 := Lib.hid hK2
      clear hC2 hen
      go_wp2_with fail
      go_roundw
      case rel => exact ⟨k + 1, S2, by omega, by omega, by go_num, hS2.out, hK2.out, by omega⟩
      case measure => (simp [intOf]; try omega)
    · have hsta := stamp_any hS
      have hop := open_any hS (hT.out.keeps hK) (S.st : Nat)
      have hm := openN_full hS.ok
      have hin := fun (W : World) (hk : Keeps wr W) => in_any (hS.keeps hk)
      rw [← hm] at hin
      have hS0 := hS
      generalize hO : openN S (S.st : Nat) = O at *
      replace hO := Lib.hid hO
      generalize hs0 : S.st = s0 at *
      replace hs0 := Lib.hid hs0
      replace hsta := Lib.hid hsta
      replace hop := Lib.hid hop
      replace hin := Lib.hid hin
      replace hK := Lib.hid hK
      replace hS := Lib.hid hS
      clear hS0 hm hfcell
      rcases hend with hend | ⟨hend, h40⟩
      all_goals
        first
          | subst hend
          | subst h40
        go_wp2_with fail
        refine hsta.out.mono ?_
        rintro e w2 ⟨rfl, rfl⟩
        go_wp2_with fail
        refine hop.out.mono ?_
        rintro e w3 ⟨rfl, hK3⟩
        have hin3 := hin.out w3 hK3
        replace hin3 := Lib.hid hin3
        replace hS := Lib.hid (hS.out.keeps hK3)
        replace hK := Lib.hid (Keeps.trans hK.out hK3)
        clear hK3 hin hsta hop
        go_wp2_with fail
        refine hin3.out.mono ?_
        rintro e w4 ⟨rfl, rfl⟩
        clear hin3
        go_wp2_with fail
        have hinit : openN S s0 = O := hO.out
        have hss : s0 ≤ S.st := Nat.le_of_eq hs0.out.symm
        have hst40 : S.st ≤ 40 := by rw [hs0.out]; omega
        rw [← hinit]
        replace hinit := Lib.hid hinit
        go_loopw [8, 9] (fun o i wr => ∃ (k : Nat) (T : SSt), k ≤ acts.length ∧ k ≤ 40 ∧ i = .int .i64 k ∧ SectAt wr p T ∧ Keeps w wr ∧ T.st ≤ 40 + k ∧ s0 ≤ T.st ∧ o = .int .u64 (openN T (s0 : Int) : Nat)) (fun _ i _ => acts.length - (intOf i).toNat)
        case atStart => exact ⟨0, S, Nat.zero_le _, Nat.zero_le _, rfl, hS.out, hK.out, hst40, hss, rfl⟩
        case round =>
          clear hS hK hinit hO hs0 hss hst40
          obtain ⟨k, T, hk, hk40, rfl, hS, hK, hst, hss, rfl⟩ := hrel
          have hgo : (k < acts.length ∧ k < 40) ∨ (k = acts.length ∨ (k < acts.length ∧ k = 40)) := by omega
          rcases hgo with ⟨hlt, h40⟩ | hend
          · obtain ⟨ac, aoff, rfl, c0, c1⟩ := hcell.out k hlt
            have d0 := (hK.cell (p := ⟨ac, aoff + k * 2, none⟩) (cell_lt c0)).trans c0
            have d1 := (hK.cell (p := ⟨ac, aoff + k * 2 + 1, none⟩) (cell_lt c1)).trans c1
            have hac : ac < wr.heap.size := cell_lt d0
            have hacl : ac < w.heap.size := cell_lt c0
            have hacp : ac ≠ p := by have := hp.out; omega
            clear c0 c1
            generalize acts[k].1 = r at *
            generalize acts[k].2 = o at *
            cases o with
            | true =>
              have hex := exit_any hS r
              have hO2 := openN_exi hS.ok s0 r
              have hst2 := SSt.exi_st T r
              generalize hT2 : T.exi r = T2 at *
              replace hT2 := Lib.hid hT2
              have hwi := fun (W : World) => without_any (openN T (s0 : Int)) (.slice (some ⟨W.heap.size, 0, none⟩) 1 1) [r] (W.alloc (.cells #[.int .i64 r] 3)) (openN_lt _ _) (ints_at W 3 [r] _ rfl (by simp [maxLen]))
              cases hB : T.exiB r with
              | true =>
                rw [hB] at hex
                rw [if_pos hB] at hO2
                rw [← hO2] at hwi
                replace hex := Lib.hid hex
                replace hwi := Lib.hid hwi
                replace hO2 := Lib.hid hO2
                replace hB := Lib.hid hB
                replace hK := Lib.hid hK
                clear hS
                go_wp2_with fail
                refine hex.out.mono ?_
                rintro e w5 ⟨rfl, hS2, hC⟩
                have hd0 := (World.cell?_of_block (w := wr) (a := ⟨ac, aoff + k * 2, none⟩) (hC.block ac hac hacp)).trans d0
                have hK2 := hkD.out _ _ hK.out hC
                replace hS2 := Lib.hid hS2
                replace hK2 := Lib.hid hK2
                clear hex hC d0 d1
                go_wp2_with fail
                refine (hwi.out _).mono ?_
                rintro e w5' ⟨rfl, rfl⟩
                replace hS2 := hS2.out.keeps (Keeps.alloc w5 (.cells #[.int .i64 r] 3))
                replace hK2 := Keeps.trans hK2.out (Keeps.alloc w5 (.cells #[.int .i64 r] 3))
                clear hd0
                replace hS2 := Lib.hid hS2
                replace hK2 := Lib.hid hK2
                have hop := open_any hS2.out (hT.out.keeps hK2.out) (s0 : Int)
                replace hop := Lib.hid hop
                go_wp2_with fail
                refine hop.out.mono ?_
                rintro e w6 ⟨rfl, hK6⟩
                have hS6 := hS2.out.keeps hK6
                replace hK6 := Lib.hid (Keeps.trans hK2.out hK6)
                replace hS6 := Lib.hid hS6
                clear hop hS2 hK2
                go_wp2_with fail
                go_roundw
                case rel => exact ⟨k + 1, T2, by omega, by omega, by go_num, hS6.out, hK6.out, by omega, by omega, rfl⟩
                case measure => (simp [intOf]; try omega)
              | false =>
                rw [hB] at hex
                rw [if_neg (by rw [hB]; decide)] at hO2
                rw [← hO2]
                replace hex := Lib.hid hex
                replace hO2 := Lib.hid hO2
                replace hB := Lib.hid hB
                replace hK := Lib.hid hK
                clear hS hwi
                go_wp2_with fail
                refine hex.out.mono ?_
                rintro e w5 ⟨rfl, hS2, hC⟩
                have hK2 := hkD.out _ _ hK.out hC
                clear hex hC d0 d1
                replace hS2 := Lib.hid hS2
                replace hK2 := Lib.hid hK2
                have hop := open_any hS2.out (hT.out.keeps hK2.out) (s0 : Int)
                replace hop := Lib.hid hop
                go_wp2_with fail
                refine hop.out.mono ?_
                rintro e w6 ⟨rfl, hK6⟩
                have hS6 := hS2.out.keeps hK6
                replace hK6 := Lib.hid (Keeps.trans hK2.out hK6)
                replace hS6 := Lib.hid hS6
                clear hop hS2 hK2
                go_wp2_with fail
                go_roundw
                case rel => exact ⟨k + 1, T2, by omega, by omega, by go_num, hS6.out, hK6.out, by omega, by omega, rfl⟩
                case measure => (simp [intOf]; try omega)
            | false =>
              have hex := enterOne hS (by omega) r
              have hO2 := openN_ent hS.ok s0 hss r
              have hst2 := SSt.ent_st T r
              have hst3 : T.st ≤ (T.ent r).st := by
                by_cases hE : T.entE r = 0
                · obtain ⟨c, e1, e2, hc⟩ := hS.ok.stepped (r, false) (by simpa [SSt.stepE] using hE)
                  have hsp : T.step (r, false) = T.ent r := rfl
                  rw [hsp] at hc
                  rcases hc with ⟨h', _⟩ | ⟨_, _, hs, _⟩
                  · cases h'
                  · rw [hs]; split <;> omega
                · rw [SSt.ent_bad hE]; exact Nat.le_refl _
              rw [← hO2]
              generalize T.entE r = E at *
              generalize hT2 : T.ent r = T2 at *
              replace hT2 := Lib.hid hT2
              replace hex := Lib.hid hex
              replace hO2 := Lib.hid hO2
              replace hK := Lib.hid hK
              clear hS
              go_wp2_with fail
              refine hex.out.mono ?_
              rintro e w5 ⟨rfl, hS2, hC⟩
              have hK2 := hkD.out _ _ hK.out hC
              clear hex hC d0 d1
              replace hS2 := Lib.hid hS2
              replace hK2 := Lib.hid hK2
              have hop := open_any hS2.out (hT.out.keeps hK2.out) (s0 : Int)
              replace hop := Lib.hid hop
              go_wp2_with fail
              refine hop.out.mono ?_
              rintro e w6 ⟨rfl, hK6⟩
              have hS6 := hS2.out.keeps hK6
              replace hK6 := Lib.hid (Keeps.trans hK2.out hK6)
              replace hS6 := Lib.hid hS6
              clear hop hS2 hK2
              go_wp2_with fail
              go_roundw
              case rel => exact ⟨k + 1, T2, by omega, by omega, by go_num, hS6.out, hK6.out, by omega, by omega, rfl⟩
              case measure => (simp [intOf]; try omega)
          · replace hK := Lib.hid hK
            clear hS hcell
            rcases hend with hend | ⟨hend, h40⟩
            all_goals
              first
                | subst hend
                | subst h40
              go_wp2_with fail
              refine (known09_any _ (hT.out.keeps hK.out)).mono ?_
              rintro e w2 ⟨rfl, hK2⟩
              go_wp2_with fail
              go_ret
              exact ⟨rfl, Keeps.trans hK.out hK2⟩
end Go.Proofs.YtjinekckpgincaaDoor
