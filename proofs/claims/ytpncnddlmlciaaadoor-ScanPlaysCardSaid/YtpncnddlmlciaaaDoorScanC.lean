/- The walks of Quiet, of the laws' Do, known of layer 10, and the law ScanNil. -/
import Derived.Test.YtpncnddlmlciaaaDoorScanB
import Derived.Test.YtpncnddlmlciaaaDoorSectE
namespace Go.Proofs.YtpncnddlmlciaaaDoor
open Go.RowKit Go.Shelf

theorem quiets_cons (S : SSt) (c : ScSt) (r : Int) (l : List Int) : quiets S c (r :: l) = ((quiets S (look S c r) l).1, (quiets S (look S c r) l).2 + (if lookB S c r = true then 1 else 0)) := rfl
set_option maxRecDepth 100000 in
set_option maxHeartbeats 1000000 in
theorem quiet_any {w : World} {x p : Nat} {S : SSt} {c : ScSt} (h : ScanAt w x p S c) (v : Value) (zs : List Int) (hv : Ints w v zs) (hsep : ∀ b, v.ownBlock = some b → 0 < zs.length → b ≠ x) (_hz : zs.length ≤ 1000) :
    Calls Tryd.prog 23 #[.pointer (some ⟨x, 0, none⟩), v] w fun e w' => e = .returned (.int .i64 ((quiets S c zs).2 : Nat)) ∧ ScanAt w' x p S (quiets S c zs).1 ∧ Chg (· = x) w w' := by
  obtain ⟨q, cap, rfl, hl, hc, _⟩ := hv.open
  replace hv := Lib.hid hv
  replace hsep := Lib.hid hsep
  replace h := Lib.hid h
  go_enter Tryd.func23, Tryd.ntmps23
  go_wp2_with fail
  go_loopw [5, 10] (fun n i wr => ∃ (k m : Nat) (cc : ScSt), k ≤ zs.length ∧ m ≤ k ∧ i = .int .i64 k ∧ n = .int .i64 m ∧ ScanAt wr x p S cc ∧ Chg (· = x) w wr ∧ Hid (((quiets S cc (zs.drop k)).1, (quiets S cc (zs.drop k)).2 + m) = quiets S c zs)) (fun _ i _ => zs.length - (intOf i).toNat)
  case atStart => exact ⟨0, 0, c, Nat.zero_le _, Nat.le_refl _, rfl, rfl, h.out, Chg.refl _ _, Lib.hid rfl⟩
  case round =>
    clear h
    obtain ⟨k, m, cc, hk, hm, rfl, rfl, hS, hC, hE⟩ := hrel
    by_cases hlt : k < zs.length
    · obtain ⟨q', cap', hv', _, _, hcell⟩ := Ints.open (Slc.chgN hv.out hC (fun b hb h0 => hsep.out b hb (by simpa using h0)))
      obtain ⟨b, off, hp, hc1⟩ := hcell k hlt
      obtain rfl : q = some ⟨b, off, none⟩ := by simp at hv'; rw [hv'.1]; exact hp
      have hlk := look_any hS zs[k]
      have hE' := hE.out
      rw [List.drop_eq_getElem_cons hlt, quiets_cons] at hE'
      clear hcell hv' hp hS hE
      generalize zs[k] = z at *
      generalize look S cc z = c2 at *
      cases hB : lookB S cc z with
      | true =>
        rw [hB] at hlk
        rw [if_pos hB] at hE'
        replace hE' := Lib.hid hE'
        replace hlk := Lib.hid hlk
        replace hC := Lib.hid hC
        clear hB
        go_wp2_with fail
        refine hlk.out.mono ?_
        rintro e w2 ⟨rfl, hS2, hC2⟩
        replace hS2 := Lib.hid hS2
        replace hC2 := Lib.hid (hC.out.trans hC2)
        go_wp2_with fail
        go_roundw
        case rel => exact ⟨k + 1, m + 1, c2, by omega, by omega, by go_num, by go_num, hS2.out, hC2.out, Lib.hid (by rw [← hE'.out]; congr 1; omega)⟩
        case measure => (simp [intOf]; try omega)
      | false =>
        rw [hB] at hlk
        rw [if_neg (by rw [hB]; decide)] at hE'
        replace hE' := Lib.hid hE'
        replace hlk := Lib.hid hlk
        replace hC := Lib.hid hC
        clear hB
        go_wp2_with fail
        refine hlk.out.mono ?_
        rintro e w2 ⟨rfl, hS2, hC2⟩
        replace hS2 := Lib.hid hS2
        replace hC2 := Lib.hid (hC.out.trans hC2)
        go_wp2_with fail
        go_roundw
        case rel => exact ⟨k + 1, m, c2, by omega, by omega, by go_num, rfl, hS2.out, hC2.out, Lib.hid (by rw [← hE'.out]; rfl)⟩
        case measure => (simp [intOf]; try omega)
    · obtain rfl : k = zs.length := by omega
      have hE' := hE.out
      rw [List.drop_length] at hE'
      replace hE' := Lib.hid hE'
      replace hS := Lib.hid hS
      replace hC := Lib.hid hC
      clear hE
      go_wp2_with fail
      go_ret
      exact ⟨by rw [← hE'.out]; simp [quiets], by rw [← hE'.out]; exact hS.out, hC.out⟩

/-- The laws' Do: a reader enters or leaves, on both sides. -/
theorem do_any {w : World} {p : Nat} {S : SSt} {l : List (Int × Bool)} {u : Value} (h : SectAt w p S) (hd : Deeds w u l) (hg : Good l) (hsep : ∀ c, u.ownBlock = some c → c ≠ p) (hl : l.length ≤ 10000) (hst : S.st < 1000) (d : Int × Bool) :
    Calls Tryd.prog 7 #[.pointer (some ⟨p, 0, none⟩), u, .agg (deedEl d).toArray] w fun e w' => ∃ u2, e = .returned u2 ∧ SectAt w' p (S.step d) ∧ Deeds w' u2 (if d.2 = true then exiD l d.1 else entD l d.1) ∧ (∀ c, u2.ownBlock = some c → c ≠ p) ∧ Chg (· = p) w w' := by
  obtain ⟨r, o⟩ := d
  have hplt := h.hdr.lt
  obtain ⟨q, cap, rfl, _⟩ := hd.get
  cases o with
  | true =>
    have hex := fun (W : World) (hk : Keeps w W) => exit_any (h.keeps hk) r
    have hre := fun (W : World) (hC : Chg (· = p) w W) => rExit_any _ l r W (SlcS.chg hd hC hsep) hg (by omega)
    have hstep : S.step (r, true) = S.exi r := rfl
    rw [hstep]
    simp only [if_true]
    generalize S.exi r = S2 at *
    generalize exiD l r = l2 at *
    generalize S.exiB r = B1 at *
    generalize S.exiE r = E1 at *
    generalize (runD l).exiB r = B2 at *
    generalize (runD l).exiE r = E2 at *
    replace hex := Lib.hid hex
    replace hre := Lib.hid hre
    replace hsep := Lib.hid hsep
    clear h hd hg hstep
    unfold deedEl
    go_enter Tryd.func7, Tryd.ntmps7
    go_upto_region 1 with (fail)
    refine wp_gen (fun W => Blk W w.heap.size 35 [.int .i64 r, .bool true] ∧ Keeps w W) ⟨Blk.at rfl rfl, Keeps.alloc _ _⟩ ?_
    rintro W ⟨hB, hK⟩
    have c0 := hB.cell 0 (by simp)
    have c1 := hB.cell 1 (by simp)
    simp only [List.getElem_cons_succ, List.getElem_cons_zero] at c0 c1
    have hex2 := hex.out W hK
    replace hex2 := Lib.hid hex2
    replace hK := Lib.hid hK
    replace hB := Lib.hid hB
    go_wp2_with fail
    refine hex2.out.mono ?_
    rintro e w2 ⟨rfl, hS2, hC⟩
    have hC2 := (Chg.of_keeps (S := (· = p)) hK.out).trans hC
    have hB2 := hB.out.chg hC (by omega)
    have c0 := hB2.cell 0 (by simp)
    simp only [List.getElem_cons_zero] at c0
    have hre2 := hre.out w2 hC2
    have hsz := hC2.size
    replace hre2 := Lib.hid hre2
    replace hS2 := Lib.hid hS2
    replace hC2 := Lib.hid hC2
    clear hC hB2 hex2
    go_wp2_with fail
    refine hre2.out.mono ?_
    rintro e w3 ⟨u2, rfl, hN1, hN2, hN3⟩
    have hfs : ∀ c, u2.ownBlock = some c → c ≠ p := by
      rcases hN2 with rfl | h2
      · exact hsep.out
      · intro c hc; have := h2 c hc; omega
    replace hN1 := Lib.hid hN1
    replace hN3 := Lib.hid hN3
    replace hfs := Lib.hid hfs
    clear hN2
    go_wp2_with fail
    go_ret
    exact ⟨_, rfl, hS2.out.keeps hN3.out, hN1.out, hfs.out, hC2.out.trans (Chg.of_keeps hN3.out)⟩
  | false =>
    have hex := fun (W : World) (hk : Keeps w W) => enterOne (h.keeps hk) hst r
    have hre := fun (W : World) (hC : Chg (· = p) w W) => rEnter_any _ l r W (SlcS.chg hd hC hsep) hg (by omega)
    have hstep : S.step (r, false) = S.ent r := rfl
    rw [hstep]
    simp only [Bool.false_eq_true, if_false]
    generalize S.ent r = S2 at *
    generalize entD l r = l2 at *
    generalize S.entE r = E1 at *
    generalize (runD l).entE r = E2 at *
    replace hex := Lib.hid hex
    replace hre := Lib.hid hre
    replace hsep := Lib.hid hsep
    clear h hd hg hstep
    unfold deedEl
    go_enter Tryd.func7, Tryd.ntmps7
    go_upto_region 1 with (fail)
    refine wp_gen (fun W => Blk W w.heap.size 35 [.int .i64 r, .bool false] ∧ Keeps w W) ⟨Blk.at rfl rfl, Keeps.alloc _ _⟩ ?_
    rintro W ⟨hB, hK⟩
    have c0 := hB.cell 0 (by simp)
    have c1 := hB.cell 1 (by simp)
    simp only [List.getElem_cons_succ, List.getElem_cons_zero] at c0 c1
    have hex2 := hex.out W hK
    replace hex2 := Lib.hid hex2
    replace hK := Lib.hid hK
    replace hB := Lib.hid hB
    go_wp2_with fail
    refine hex2.out.mono ?_
    rintro e w2 ⟨rfl, hS2, hC⟩
    have hC2 := (Chg.of_keeps (S := (· = p)) hK.out).trans hC
    have hB2 := hB.out.chg hC (by omega)
    have c0 := hB2.cell 0 (by simp)
    simp only [List.getElem_cons_zero] at c0
    have hre2 := hre.out w2 hC2
    have hsz := hC2.size
    replace hre2 := Lib.hid hre2
    replace hS2 := Lib.hid hS2
    replace hC2 := Lib.hid hC2
    clear hC hB2 hex2
    go_wp2_with fail
    refine hre2.out.mono ?_
    rintro e w3 ⟨u2, rfl, hN1, hN2, hN3⟩
    have hfs : ∀ c, u2.ownBlock = some c → c ≠ p := by
      rcases hN2 with rfl | h2
      · exact hsep.out
      · intro c hc; have := h2 c hc; omega
    replace hN1 := Lib.hid hN1
    replace hN3 := Lib.hid hN3
    replace hfs := Lib.hid hfs
    clear hN2
    go_wp2_with fail
    go_ret
    exact ⟨_, rfl, hS2.out.keeps hN3.out, hN1.out, hfs.out, hC2.out.trans (Chg.of_keeps hN3.out)⟩
end Go.Proofs.YtpncnddlmlciaaaDoor
