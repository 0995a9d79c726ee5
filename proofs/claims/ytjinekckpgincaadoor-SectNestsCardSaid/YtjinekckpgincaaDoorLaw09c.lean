/- The law SectPlays: what its walk comes to. -/
import Derived.Test.YtjinekckpgincaaDoorLaw09b
namespace Go.Proofs.YtjinekckpgincaaDoor
open Go.RowKit Go.Shelf

set_option maxRecDepth 100000 in
set_option maxHeartbeats 4000000 in
theorem lawPlaysS_any (v : Value) (acts : List (Int × Bool)) (stamp : Int) (w : World) (hv : Deeds w v acts) (hT : TabAt w) :
    Calls Tryd.prog 4 #[v, .int .i64 stamp] w fun e w' => e = .returned (.bool true) ∧ Keeps w w' := by
  obtain ⟨ap, acap, rfl, hal, hac, hcell⟩ := hv.get
  have hz := zeroSect
  replace hT := Lib.hid hT
  replace hcell := Lib.hid hcell
  clear hv
  go_enter Tryd.func4, Tryd.ntmps4
  go_upto_region 2 with (fail)
  refine wp_gen (fun W => SectAt W w.heap.size .init ∧ Keeps w W) ⟨sect_new w, Keeps.alloc _ _⟩ ?_
  rintro W1 ⟨hS, hK⟩
  have hI := InvT.start hS hK
  replace hI := Lib.hid hI
  clear hS hK hz
  go_wp2_with fail
  generalize hp : w.heap.size = p at *
  have hpw : w.heap.size ≤ p := by omega
  replace hp := Lib.hid hp
  go_loopw [6, 7] (fun m i wr => ∃ (k : Nat) (l : List (Int × Bool)) (u : Value), k ≤ acts.length ∧ k ≤ 40 ∧ i = .int .i64 k ∧ u = m ∧ InvS w p l u wr ∧ l.length ≤ k) (fun _ i _ => acts.length - (intOf i).toNat)
  case atStart => exact ⟨0, [], _, Nat.zero_le _, Nat.zero_le _, rfl, rfl, hI.out, Nat.le_refl _⟩
  case round =>
    clear hI
    obtain ⟨k, l, u, hk, hk40, rfl, rfl, hI, hll⟩ := hrel
    replace hI := Lib.hid hI
    by_cases hlt : k < acts.length
    · by_cases h40 : k < 40
      · obtain ⟨ac, aoff, rfl, c0, c1⟩ := hcell.out k hlt
        have d0 := (hI.out.keeps.cell (p := ⟨ac, aoff + k * 2, none⟩) (cell_lt c0)).trans c0
        have d1 := (hI.out.keeps.cell (p := ⟨ac, aoff + k * 2 + 1, none⟩) (cell_lt c1)).trans c1
        clear c0 c1
        generalize acts[k].1 = r at *
        generalize acts[k].2 = o at *
        obtain ⟨q0, c0, hu0, _⟩ := hI.out.deeds.get
        have hst0 := runD_st l
        cases o with
        | true =>
          have hre := rExit_any u l r wr hI.out.deeds hI.out.good (by omega)
          have hg2 := exiD_good hI.out.good r
          have hl2 := Nat.le_trans (exiD_len l r) (Nat.succ_le_succ hll)
          have hrd := runD_exi l r
          have hex := fun (W : World) (h : InvT w p (runD l) (exiD l r) u W) => h
          clear hex
          have hex := fun (W : World) (h : SectAt W p (runD l)) => exit_any h r
          rw [← hrd] at hex
          generalize (runD l).exiB r = B at *
          generalize (runD l).exiE r = E at *
          generalize exiD l r = l2 at *
          replace hre := Lib.hid hre
          replace hg2 := Lib.hid hg2
          replace hex := Lib.hid hex
          clear hrd
          subst hu0
          go_wp2_with fail
          refine hre.out.mono ?_
          rintro e w2 ⟨u2, rfl, hN⟩
          have hI2 := hI.out.told hN hg2.out
          replace hex := hex.out w2 hI2.sect
          replace hI2 := Lib.hid hI2
          replace hex := Lib.hid hex
          clear hN
          go_wp2_with fail
          refine hex.out.mono ?_
          rintro e w3 ⟨rfl, hS3, hC3⟩
          have hI3 : InvS w p l2 u2 w3 := hI2.out.done hpw hC3 hS3
          clear hS3 hC3 hex hI2 d0 d1
          replace hI3 := Lib.hid hI3
          have hll3 : l2.length ≤ k + 1 := hl2
          have hsta := rStamps_any u2 l2 r w3 hI3.out.deeds hI3.out.good (by omega)
          replace hsta := Lib.hid hsta
          obtain ⟨q2, c2, rfl, _⟩ := hI3.out.deeds.get
          go_wp2_with fail
          refine hsta.out.mono ?_
          rintro e w4 ⟨rfl, hK4⟩
          have hI4 := hI3.out.kept hK4
          have hst := stamp_any hI4.sect
          have hdp := depth_any hI4.sect r
          replace hst := Lib.hid hst
          replace hdp := Lib.hid hdp
          replace hI4 := Lib.hid hI4
          clear hsta hK4 hI3
          go_wp2_with fail
          refine hst.out.mono ?_
          rintro e w5 ⟨rfl, rfl⟩
          go_wp2_with fail
          refine hdp.out.mono ?_
          rintro e w6 ⟨rfl, hK6⟩
          have hI6 := hI4.out.kept hK6
          have hrd := rDepth_any _ l2 r w6 hI6.deeds (by omega)
          rw [dTo_all hI6.good] at hrd
          have hsi := since_any hI6.sect r
          replace hrd := Lib.hid hrd
          replace hsi := Lib.hid hsi
          replace hI6 := Lib.hid hI6
          clear hst hdp hI4 hK6
          go_wp2_with fail
          refine hrd.out.mono ?_
          rintro e w7 ⟨rfl, rfl⟩
          go_wp2_with fail
          refine hsi.out.mono ?_
          rintro e w8 ⟨rfl, hK8⟩
          have hI8 := hI6.out.kept hK8
          replace hI8 := Lib.hid hI8
          clear hrd hsi hI6 hK8
          go_wp2_with fail
          go_roundw
          case rel => exact ⟨k + 1, l2, _, by omega, by omega, by go_num, rfl, hI8.out, hll3⟩
          case measure => (simp [intOf]; try omega)
        | false =>
          have hre := rEnter_any u l r wr hI.out.deeds hI.out.good (by omega)
          have hg2 := entD_good hI.out.good r
          have hl2 := Nat.le_trans (entD_len l r) (Nat.succ_le_succ hll)
          have hrd := runD_ent l r
          have hex := fun (W : World) (h : SectAt W p (runD l)) (hw : SectAt (W.alloc (.cells #[.int .i64 r] 3)) p (runD l)) => enters_any hw (.slice (some ⟨W.heap.size, 0, none⟩) 1 1) [r] (ints_at W 3 [r] _ rfl (by simp [maxLen])) (fun b hb _ => by
            have := h.hdr.lt
            simp only [Value.ownBlock, Option.some.injEq] at hb; omega) (by simp; omega)
          have he1 : ((runD l).ents [r]).2 = (runD l).entE r ∧ ((runD l).ents [r]).1 = (runD l).ent r := by
            rw [SSt.ents_cons]
            split
            · rename_i h; exact ⟨h.symm, rfl⟩
            · rename_i h; exact ⟨rfl, (SSt.ent_bad h).symm⟩
          rw [he1.1, he1.2, ← hrd] at hex
          generalize (runD l).entE r = E at *
          generalize entD l r = l2 at *
          replace hre := Lib.hid hre
          replace hg2 := Lib.hid hg2
          replace hex := Lib.hid hex
          clear hrd he1
          subst hu0
          go_wp2_with fail
          refine hre.out.mono ?_
          rintro e w2 ⟨u2, rfl, hN⟩
          have hI2 := hI.out.told hN hg2.out
          have hKA := Keeps.alloc w2 (.cells #[.int .i64 r] 3)
          replace hex := hex.out w2 hI2.sect (hI2.sect.keeps hKA)
          replace hI2 := Lib.hid (hI2.kept hKA)
          replace hex := Lib.hid hex
          clear hN hKA
          go_wp2_with fail
          refine hex.out.mono ?_
          rintro e w3 ⟨rfl, hS3, hC3⟩
          have hI3 : InvS w p l2 u2 w3 := hI2.out.done hpw hC3 hS3
          clear hS3 hC3 hex hI2 d0 d1
          replace hI3 := Lib.hid hI3
          have hll3 : l2.length ≤ k + 1 := hl2
          have hsta := rStamps_any u2 l2 r w3 hI3.out.deeds hI3.out.good (by omega)
          replace hsta := Lib.hid hsta
          obtain ⟨q2, c2, rfl, _⟩ := hI3.out.deeds.get
          go_wp2_with fail
          refine hsta.out.mono ?_
          rintro e w4 ⟨rfl, hK4⟩
          have hI4 := hI3.out.kept hK4
          have hst := stamp_any hI4.sect
          have hdp := depth_any hI4.sect r
          replace hst := Lib.hid hst
          replace hdp := Lib.hid hdp
          replace hI4 := Lib.hid hI4
          clear hsta hK4 hI3
          go_wp2_with fail
          refine hst.out.mono ?_
          rintro e w5 ⟨rfl, rfl⟩
          go_wp2_with fail
          refine hdp.out.mono ?_
          rintro e w6 ⟨rfl, hK6⟩
          have hI6 := hI4.out.kept hK6
          have hrd := rDepth_any _ l2 r w6 hI6.deeds (by omega)
          rw [dTo_all hI6.good] at hrd
          have hsi := since_any hI6.sect r
          replace hrd := Lib.hid hrd
          replace hsi := Lib.hid hsi
          replace hI6 := Lib.hid hI6
          clear hst hdp hI4 hK6
          go_wp2_with fail
          refine hrd.out.mono ?_
          rintro e w7 ⟨rfl, rfl⟩
          go_wp2_with fail
          refine hsi.out.mono ?_
          rintro e w8 ⟨rfl, hK8⟩
          have hI8 := hI6.out.kept hK8
          replace hI8 := Lib.hid hI8
          clear hrd hsi hI6 hK8
          go_wp2_with fail
          go_roundw
          case rel => exact ⟨k + 1, l2, _, by omega, by omega, by go_num, rfl, hI8.out, hll3⟩
          case measure => (simp [intOf]; try omega)
      · obtain rfl : k = 40 := by omega
        clear hcell
        have hm1 : ∀ (W : World), InvS w p l u W → Calls Tryd.prog 12 #[u, .int .i64 (-1)] W fun e w' => e = .returned (.int .u64 ((runD l).m : Nat)) ∧ Keeps W w' := fun W h => by
          have := rIn_any u l (-1) W h.deeds h.good (by omega)
          rwa [inF_all (runD_ok l)] at this
        have hms : ∀ (W : World), InvS w p l u W → Calls Tryd.prog 12 #[u, .int .i64 stamp] W fun e w' => e = .returned (.int .u64 (inF (runD l) stamp : Nat)) ∧ Keeps W w' := fun W h => rIn_any u l stamp W h.deeds h.good (by omega)
        have hop : ∀ (W : World), InvS w p l u W → Calls Tryd.prog 20 #[.pointer (some ⟨p, 0, none⟩), .int .i64 stamp] W fun e w' => e = .returned (.int .u64 (openN (runD l) stamp : Nat)) ∧ Keeps W w' := fun W h => open_any h.sect (hT.out.keeps h.keeps) stamp
        obtain ⟨q2, c2, rfl, _⟩ := hI.out.deeds.get
        replace hm1 := Lib.hid hm1
        replace hms := Lib.hid hms
        by_cases hs : 0 ≤ stamp
        · have hs' : ¬ stamp < 0 := by omega
          rw [← inF_open (runD_ok l) stamp hs] at hop
          generalize inF (runD l) stamp = F at *
          replace hop := Lib.hid hop
          go_wp2_with fail
          refine (hop.out _ hI.out).mono ?_
          rintro e w2 ⟨rfl, hK2⟩
          replace hI := Lib.hid (hI.out.kept hK2)
          clear hK2
          go_wp2_with fail
          refine (hms.out _ hI.out).mono ?_
          rintro e w3 ⟨rfl, hK2⟩
          replace hI := Lib.hid (hI.out.kept hK2)
          clear hK2
          go_wp2_with fail
          refine (known09_any _ (hT.out.keeps hI.out.keeps)).mono ?_
          rintro e w4 ⟨rfl, hK2⟩
          replace hI := Lib.hid (hI.out.kept hK2)
          clear hK2
          go_wp2_with fail
          refine (in_any hI.out.sect).mono ?_
          rintro e w5 ⟨rfl, rfl⟩
          go_wp2_with fail
          refine (hm1.out _ hI.out).mono ?_
          rintro e w6 ⟨rfl, hK2⟩
          go_wp2_with fail
          go_ret
          exact ⟨rfl, Keeps.trans hI.out.keeps hK2⟩
        · have hs' : stamp < 0 := by omega
          rw [openN_neg _ stamp hs'] at hop
          replace hop := Lib.hid hop
          go_wp2_with fail
          refine (hop.out _ hI.out).mono ?_
          rintro e w2 ⟨rfl, hK2⟩
          replace hI := Lib.hid (hI.out.kept hK2)
          clear hK2
          go_wp2_with fail
          refine (known09_any _ (hT.out.keeps hI.out.keeps)).mono ?_
          rintro e w4 ⟨rfl, hK2⟩
          replace hI := Lib.hid (hI.out.kept hK2)
          clear hK2
          go_wp2_with fail
          refine (in_any hI.out.sect).mono ?_
          rintro e w5 ⟨rfl, rfl⟩
          go_wp2_with fail
          refine (hm1.out _ hI.out).mono ?_
          rintro e w6 ⟨rfl, hK2⟩
          go_wp2_with fail
          go_ret
          exact ⟨rfl, Keeps.trans hI.out.keeps hK2⟩
    · obtain rfl : k = acts.length := by omega
      clear hcell
      have hm1 : ∀ (W : World), InvS w p l u W → Calls Tryd.prog 12 #[u, .int .i64 (-1)] W fun e w' => e = .returned (.int .u64 ((runD l).m : Nat)) ∧ Keeps W w' := fun W h => by
        have := rIn_any u l (-1) W h.deeds h.good (by omega)
        rwa [inF_all (runD_ok l)] at this
      have hms : ∀ (W : World), InvS w p l u W → Calls Tryd.prog 12 #[u, .int .i64 stamp] W fun e w' => e = .returned (.int .u64 (inF (runD l) stamp : Nat)) ∧ Keeps W w' := fun W h => rIn_any u l stamp W h.deeds h.good (by omega)
      have hop : ∀ (W : World), InvS w p l u W → Calls Tryd.prog 20 #[.pointer (some ⟨p, 0, none⟩), .int .i64 stamp] W fun e w' => e = .returned (.int .u64 (openN (runD l) stamp : Nat)) ∧ Keeps W w' := fun W h => open_any h.sect (hT.out.keeps h.keeps) stamp
      obtain ⟨q2, c2, rfl, _⟩ := hI.out.deeds.get
      replace hm1 := Lib.hid hm1
      replace hms := Lib.hid hms
      by_cases hs : 0 ≤ stamp
      · have hs' : ¬ stamp < 0 := by omega
        rw [← inF_open (runD_ok l) stamp hs] at hop
        generalize inF (runD l) stamp = F at *
        replace hop := Lib.hid hop
        go_wp2_with fail
        refine (hop.out _ hI.out).mono ?_
        rintro e w2 ⟨rfl, hK2⟩
        replace hI := Lib.hid (hI.out.kept hK2)
        clear hK2
        go_wp2_with fail
        refine (hms.out _ hI.out).mono ?_
        rintro e w3 ⟨rfl, hK2⟩
        replace hI := Lib.hid (hI.out.kept hK2)
        clear hK2
        go_wp2_with fail
        refine (known09_any _ (hT.out.keeps hI.out.keeps)).mono ?_
        rintro e w4 ⟨rfl, hK2⟩
        replace hI := Lib.hid (hI.out.kept hK2)
        clear hK2
        go_wp2_with fail
        refine (in_any hI.out.sect).mono ?_
        rintro e w5 ⟨rfl, rfl⟩
        go_wp2_with fail
        refine (hm1.out _ hI.out).mono ?_
        rintro e w6 ⟨rfl, hK2⟩
        go_wp2_with fail
        go_ret
        exact ⟨rfl, Keeps.trans hI.out.keeps hK2⟩
      · have hs' : stamp < 0 := by omega
        rw [openN_neg _ stamp hs'] at hop
        replace hop := Lib.hid hop
        go_wp2_with fail
        refine (hop.out _ hI.out).mono ?_
        rintro e w2 ⟨rfl, hK2⟩
        replace hI := Lib.hid (hI.out.kept hK2)
        clear hK2
        go_wp2_with fail
        refine (known09_any _ (hT.out.keeps hI.out.keeps)).mono ?_
        rintro e w4 ⟨rfl, hK2⟩
        replace hI := Lib.hid (hI.out.kept hK2)
        clear hK2
        go_wp2_with fail
        refine (in_any hI.out.sect).mono ?_
        rintro e w5 ⟨rfl, rfl⟩
        go_wp2_with fail
        refine (hm1.out _ hI.out).mono ?_
        rintro e w6 ⟨rfl, hK2⟩
        go_wp2_with fail
        go_ret
        exact ⟨rfl, Keeps.trans hI.out.keeps hK2⟩
end Go.Proofs.YtjinekckpgincaaDoor
