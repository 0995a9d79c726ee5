/- The law ScanWaits: what its walk comes to. -/
import Derived.Test.YtpncnddlmlciaaaDoorLaw10
import Derived.Test.YtpncnddlmlciaaaDoorOpen09
namespace Go.Proofs.YtpncnddlmlciaaaDoor
open Go.RowKit Go.Shelf

/-- What a scan keeps: who is open up to its stamp is a holdout. -/
def Waits (S : SSt) (c : ScSt) : Prop := ∀ j : Nat, j < 64 → (openN S (c.began : Int)).testBit j = true → c.left.testBit j = true
theorem Waits.step {S : SSt} {c : ScSt} (h : Waits S c) (hok : S.Ok) (hb : c.began ≤ S.st) (d : Int × Bool) : Waits (S.step d) c := by
  intro j hj ho
  refine h j hj ?_
  unfold SSt.step at ho
  split at ho
  · rw [openN_exi hok c.began d.1] at ho
    split at ho
    · rw [testBit_withoutN j hj, Bool.and_eq_true] at ho; exact ho.1
    · exact ho
  · rwa [openN_ent hok c.began hb d.1] at ho
theorem Waits.looked {S : SSt} {c : ScSt} (h : Waits S c) (hok : S.Ok) (r : Int) : Waits S (look S c r) := by
  unfold Proofs.YtpncnddlmlciaaaDoor.look
  split
  · rename_i hB
    intro j hj ho
    show (withoutN c.left [r]).testBit j = true
    have h1 := h j hj ho
    rw [testBit_withoutN j hj, h1, Bool.true_and]
    by_cases e : (j : Int) = r
    · subst e
      exfalso
      rw [openN_bit hok _ j hj, Bool.and_eq_true, decide_eq_true_eq, decide_eq_true_eq] at ho
      have hp := hok.pos j ho.1
      have hs : S.sinI j = (S.sin j : Nat) := by unfold SSt.sinI; rw [if_pos (by omega), Int.toNat_natCast]
      simp only [lookB, hs, Bool.and_eq_true, Bool.not_eq_true', Bool.and_eq_false_iff, decide_eq_false_iff_not] at hB
      have h2 : (look S c ↑j).began = c.began := look_began c S j
      simp only at ho
      omega
    · simp [e]
  · exact h
theorem Waits.pst {S : SSt} {c : ScSt} (h : Waits S c) (hok : S.Ok) : Waits S (pstep S c) := by
  unfold Proofs.YtpncnddlmlciaaaDoor.pstep
  split
  · exact h.looked hok _
  · exact h
theorem Waits.psts {S : SSt} (hok : S.Ok) : ∀ (n : Nat) {c : ScSt}, Waits S c → Waits S (psteps S n c)
  | 0, _, h => h
  | n + 1, _, h => Waits.psts hok n (h.pst hok)
theorem Waits.polled {S : SSt} {c : ScSt} (h : Waits S c) (hok : S.Ok) (n : Int) : Waits S (poll S c n) := Waits.psts hok _ h
theorem Waits.start {S : SSt} (hok : S.Ok) : Waits S ⟨S.m, S.st, 0⟩ := by
  intro j hj ho
  show S.m.testBit j = true
  rw [show ((ScSt.mk S.m S.st 0).began : Int) = (S.st : Nat) from rfl, openN_full hok] at ho
  exact ho
theorem Waits.and {S : SSt} {c : ScSt} (h : Waits S c) : c.left &&& openN S (c.began : Int) = openN S (c.began : Int) := by
  apply Nat.eq_of_testBit_eq
  intro j
  rw [Nat.testBit_and]
  by_cases hj : j < 64
  · cases ho : (openN S (c.began : Int)).testBit j with
    | false => simp
    | true => rw [h j hj ho]; rfl
  · rw [testBit_high _ j (openN_lt _ _) (by omega)]; simp
theorem Waits.done {S : SSt} {c : ScSt} (h : Waits S c) (h0 : c.left = 0) : openN S (c.began : Int) = 0 := by
  have := h.and
  rw [h0] at this
  simpa using this.symm
theorem poll_began (S : SSt) (c : ScSt) (n : Int) : (poll S c n).began = c.began := psteps_began S _ c

/-- Do, the document's deeds left out. -/
theorem doNil_any {w : World} {p : Nat} {S : SSt} (h : SectAt w p S) (hst : S.st < 1000) (d : Int × Bool) :
    Calls Tryd.prog 7 #[.pointer (some ⟨p, 0, none⟩), .slice none 0 0, .agg #[.int .i64 d.1, .bool d.2]] w fun e w' => ∃ q n c, e = .returned (.slice q n c) ∧ SectAt w' p (S.step d) ∧ Chg (· = p) w w' :=
  (do_any (l := []) h (show Deeds w (.slice none 0 0) [] from SlcS.nil 2 w) Good.nil (fun c hc => by simp [Value.ownBlock] at hc) (Nat.zero_le _) hst d).mono fun e w' ⟨u2, h1, h2, h3, _, h5⟩ => by
    obtain ⟨q, c, rfl, _⟩ := h3.get
    exact ⟨q, _, c, h1, h2, h5⟩

set_option maxRecDepth 100000 in
set_option maxHeartbeats 4000000 in
theorem lawWaits_any (fv v : Value) (first acts : List (Int × Bool)) (n : Int) (w : World) (hf : Deeds w fv first) (hv : Deeds w v acts) (hT : TabAt w) :
    Calls Tryd.prog 6 #[fv, v, .int .i64 n] w fun e w' => e = .returned (.bool true) ∧ Keeps w w' := by
  obtain ⟨ap, acap, rfl, hal, hac, hcell⟩ := hv.get
  obtain ⟨fp, fcap, rfl, hfl, hfc, hfcell⟩ := hf.get
  obtain ⟨N, hN, eN⟩ := wrap_mod n 64 (by decide)
  have hz := zeroSect
  replace hT := Lib.hid hT
  replace hcell := Lib.hid hcell
  replace hfcell := Lib.hid hfcell
  clear hv hf
  go_enter Tryd.func6, Tryd.ntmps6
  go_upto_region 2 with (fail)
  refine wp_gen (fun W => SectAt W w.heap.size .init ∧ Keeps w W) ⟨sect_new w, Keeps.alloc _ _⟩ ?_
  rintro W1 ⟨hS, hK⟩
  clear hz
  generalize hp : w.heap.size = p at *
  have hkD : ∀ (W W' : World), Keeps w W → Chg (· = p) W W' → Keeps w W' := fun W W' hk hc => Chg.keeps hc hk (fun k hk => by omega)
  replace hkD := Lib.hid hkD
  replace hS := Lib.hid hS
  replace hK := Lib.hid hK
  replace hp := Lib.hid hp
  go_wp2_with fail
  go_loopw [8] (fun i wr => ∃ (k : Nat) (S : SSt), k ≤ first.length ∧ k ≤ 40 ∧ i = .int .i64 k ∧ SectAt wr p S ∧ Keeps w wr ∧ S.st ≤ k) (fun i _ => first.length - (intOf i).toNat)
  case atStart => exact ⟨0, .init, Nat.zero_le _, Nat.zero_le _, rfl, hS.out, hK.out, Nat.le_refl _⟩
  case round =>
    clear hS hK
    obtain ⟨k, S, hk, hk40, rfl, hS, hK, hst⟩ := hrel
    have hgo : (k < first.length ∧ k < 40) ∨ (k = first.length ∨ (k < first.length ∧ k = 40)) := by omega
    rcases hgo with ⟨hlt, h40⟩ | hend
    · obtain ⟨b, off, rfl, c0, c1⟩ := hfcell.out k hlt
      have d0 := (hK.cell (p := ⟨b, off + k * 2, none⟩) (cell_lt c0)).trans c0
      have d1 := (hK.cell (p := ⟨b, off + k * 2 + 1, none⟩) (cell_lt c1)).trans c1
      have hdo := doNil_any hS (by omega) first[k]
      have hst1 := S.step_st first[k]
      clear c0 c1
      generalize S.step first[k] = S2 at *
      generalize first[k].1 = r at *
      generalize first[k].2 = o at *
      replace hdo := Lib.hid hdo
      replace hK := Lib.hid hK
      clear hS
      go_wp2_with fail
      refine hdo.out.mono ?_
      rintro e w2 ⟨q, n', c', rfl, hS2, hC2⟩
      have hK2 := hkD.out _ _ hK.out hC2
      replace hS2 := Lib.hid hS2
      replace hK2 := Lib.hid hK2
      clear hC2 hdo d0 d1
      go_wp2_with fail
      go_roundw
      case rel => exact ⟨k + 1, S2, by omega, by omega, by go_num, hS2.out, hK2.out, by omega⟩
      case measure => (simp [intOf]; try omega)
    · have hsc := scNew_any hS
      have hok := hS.ok
      have hws := hK.size
      obtain ⟨x, hxe⟩ : ∃ x, x = wr.heap.size := ⟨_, rfl⟩
      rw [← hxe] at hsc hws
      have hkX : ∀ (W W' : World), Keeps w W → Chg (· = x) W W' → Keeps w W' := fun W W' hk hc => Chg.keeps hc hk (fun k hk => by omega)
      have hwa := Waits.start hok
      replace hkX := Lib.hid hkX
      replace hsc := Lib.hid hsc
      replace hK := Lib.hid hK
      replace hwa := Lib.hid hwa
      clear hS hxe hok hfcell
      rcases hend with hend | ⟨hend, h40⟩
      all_goals
        first
          | subst hend
          | subst h40
        go_wp2_with fail
        refine hsc.out.mono ?_
        rintro e w2 ⟨rfl, hX, hK2⟩
        have hsta := stamp_any hX.sect
        replace hK := Lib.hid (Keeps.trans hK.out hK2)
        replace hX := Lib.hid hX
        replace hsta := Lib.hid hsta
        clear hsc hK2
        go_wp2_with fail
        refine hsta.out.mono ?_
        rintro e w3 ⟨rfl, rfl⟩
        clear hsta
        go_wp2_with fail
        generalize hs0 : S.st = s0 at *
        have hss : s0 ≤ S.st := Nat.le_of_eq hs0.symm
        replace hs0 := Lib.hid hs0
        go_loopw [11] (fun i wr => ∃ (k : Nat) (T : SSt) (c : ScSt), k ≤ acts.length ∧ k ≤ 60 ∧ i = .int .i64 k ∧ ScanAt wr x p T c ∧ Keeps w wr ∧ T.st ≤ 40 + k ∧ s0 ≤ T.st ∧ c.began = s0 ∧ Waits T c) (fun i _ => acts.length - (intOf i).toNat)
        case atStart => exact ⟨0, S, _, Nat.zero_le _, Nat.zero_le _, rfl, hX.out, hK.out, by have := hs0.out; omega, hss, rfl, hwa.out⟩
        case round =>
          clear hX hK hwa hs0 hss
          obtain ⟨k, T, c, hk, hk60, rfl, hX, hK, hst2, hss, hcb, hwa⟩ := hrel
          have hgo : (k < acts.length ∧ k < 60) ∨ (k = acts.length ∨ (k < acts.length ∧ k = 60)) := by omega
          rcases hgo with ⟨hlt, h60⟩ | hend2
          · obtain ⟨ac, aoff, rfl, c0, c1⟩ := hcell.out k hlt
            have d0 := (hK.cell (p := ⟨ac, aoff + k * 2, none⟩) (cell_lt c0)).trans c0
            have d1 := (hK.cell (p := ⟨ac, aoff + k * 2 + 1, none⟩) (cell_lt c1)).trans c1
            have hdo := doNil_any hX.sect (by omega) acts[k]
            have hst1 := T.step_st acts[k]
            have hwa2 := hwa.step hX.sect.ok (by omega) acts[k]
            have hok2 := hX.sect.ok.step acts[k]
            have hsm : s0 ≤ (T.step acts[k]).st := by
              unfold SSt.step
              split
              · rw [SSt.exi_st]; exact hss
              · by_cases hE : T.entE acts[k].1 = 0
                · obtain ⟨c', e1, e2, hc⟩ := hX.sect.ok.stepped (acts[k].1, false) (by simpa [SSt.stepE] using hE)
                  have hsp : T.step (acts[k].1, false) = T.ent acts[k].1 := rfl
                  rw [hsp] at hc
                  rcases hc with ⟨h', _⟩ | ⟨_, _, hs, _⟩
                  · cases h'
                  · rw [hs]; split <;> omega
                · rw [SSt.ent_bad hE]; exact hss
            clear c0 c1
            generalize T.step acts[k] = T2 at *
            generalize acts[k].1 = r at *
            generalize acts[k].2 = o at *
            have hwp := hwa2.polled hok2 (1 + (N : Int))
            have hpb := poll_began T2 c (1 + (N : Int))
            have hpo := fun (W : World) (hX : ScanAt W x p T2 c) (hT : TabAt W) => poll_any hX hT (1 + (N : Int))
            generalize poll T2 c (1 + (N : Int)) = c2 at *
            have hb2 : c2.began = s0 := by rw [hpb, hcb]
            have hand := hwp.and
            have hdone := fun h0 => hwp.done h0
            rw [hb2] at hand hdone
            have hop := fun (W : World) (h : SectAt W p T2) (hT : TabAt W) => open_any h hT (s0 : Int)
            have hOlt := openN_lt T2 (s0 : Int)
            generalize openN T2 (s0 : Int) = O at *
            replace hdo := Lib.hid hdo
            replace hpo := Lib.hid hpo
            replace hop := Lib.hid hop
            replace hand := Lib.hid hand
            replace hdone := Lib.hid hdone
            replace hwp := Lib.hid hwp
            replace hb2 := Lib.hid hb2
            replace hK := Lib.hid hK
            replace hX := Lib.hid hX
            clear hwa hwa2 hok2 hpb hcb
            go_wp2_with fail
            refine hdo.out.mono ?_
            rintro e w4 ⟨q, n', c', rfl, hS2, hC2⟩
            have hK2 := hkD.out _ _ hK.out hC2
            have hX2 := hX.out.resect hC2 hS2
            have hpo2 := hpo.out _ hX2 (hT.out.keeps hK2)
            replace hpo2 := Lib.hid hpo2
            replace hK2 := Lib.hid hK2
            clear hC2 hdo d0 d1 hS2 hX hpo hX2
            go_wp2_with fail
            refine hpo2.out.mono ?_
            rintro e w5 ⟨rfl, hX3, hC3⟩
            have hK3 := hkX.out _ _ hK2.out hC3
            have hop3 := hop.out _ hX3.sect (hT.out.keeps hK3)
            replace hop3 := Lib.hid hop3
            replace hX3 := Lib.hid hX3
            replace hK3 := Lib.hid hK3
            clear hC3 hpo2 hop
            go_wp2_with fail
            refine hop3.out.mono ?_
            rintro e w6 ⟨rfl, hK6⟩
            replace hX3 := hX3.out.keeps hK6
            replace hK3 := Lib.hid (Keeps.trans hK3.out hK6)
            have hdo := done_any hX3
            have hle := left_any hX3
            have hbits : bits .and .u64 (c2.left : Int) (O : Int) = (O : Int) := by rw [bits_and_u64_nat _ _ hX3.ok.word hOlt, hand.out]
            replace hX3 := Lib.hid hX3
            replace hle := Lib.hid hle
            clear hK6 hop3
            by_cases hl0 : c2.left = 0
            · have hO0 := hdone.out hl0
              rw [decide_eq_true hl0] at hdo
              subst hO0
              have hbits0 : bits .and .u64 (c2.left : Int) 0 = 0 := hbits
              clear hbits
              replace hdo := Lib.hid hdo
              replace hl0 := Lib.hid hl0
              go_wp2_with fail
              refine hdo.out.mono ?_
              rintro e w7 ⟨rfl, rfl⟩
              go_wp2_with fail
              refine hle.out.mono ?_
              rintro e w7 ⟨rfl, rfl⟩
              go_wp2_with fail
              go_roundw
              case rel => exact ⟨k + 1, T2, c2, by omega, by omega, by go_num, hX3.out, hK3.out, by omega, by omega, hb2.out, hwp.out⟩
              case measure => (simp [intOf]; try omega)
            · rw [decide_eq_false hl0] at hdo
              replace hdo := Lib.hid hdo
              replace hl0 := Lib.hid hl0
              go_wp2_with fail
              refine hdo.out.mono ?_
              rintro e w7 ⟨rfl, rfl⟩
              go_wp2_with fail
              refine hle.out.mono ?_
              rintro e w7 ⟨rfl, rfl⟩
              go_wp2_with fail
              go_roundw
              case rel => exact ⟨k + 1, T2, c2, by omega, by omega, by go_num, hX3.out, hK3.out, by omega, by omega, hb2.out, hwp.out⟩
              case measure => (simp [intOf]; try omega)
          · replace hK := Lib.hid hK
            clear hX hcell hwa hcb
            rcases hend2 with hend2 | ⟨hend2, h60⟩
            all_goals
              first
                | subst hend2
                | subst h60
              go_wp2_with fail
              refine (known10_any _ (hT.out.keeps hK.out)).mono ?_
              rintro e w2 ⟨rfl, hK2⟩
              go_wp2_with fail
              go_ret
              exact ⟨rfl, Keeps.trans hK.out hK2⟩
end Go.Proofs.YtpncnddlmlciaaaDoor
