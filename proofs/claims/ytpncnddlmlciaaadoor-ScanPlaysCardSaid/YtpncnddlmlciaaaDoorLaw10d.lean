/- The law ScanPlays: what its walk comes to. -/
import Derived.Test.YtpncnddlmlciaaaDoorPlay10
import Derived.Test.YtpncnddlmlciaaaDoorQuietRow
import Derived.Deep.DeepCutAuto
import Derived.Deep.CutBlock
namespace Go.Proofs.YtpncnddlmlciaaaDoor
open Go.RowKit Go.Shelf

set_option maxRecDepth 100000 in
set_option maxHeartbeats 8000000 in
theorem lawPlays_any (fv v : Value) (first : List (Int × Bool)) (acts : List (Int × (Int × Bool) × Int)) (w : World) (hf : Deeds w fv first) (hv : Acts10 w v acts) (hT : TabAt w) :
    Calls Tryd.prog 4 #[fv, v] w fun e w' => e = .returned (.bool true) ∧ Keeps w w' := by
  obtain ⟨ap, acap, rfl, hal, hac, hcell⟩ := hv.get
  obtain ⟨fp, fcap, rfl, hfl, hfc, hfcell⟩ := hf.get
  have hz := zeroSect
  replace hT := Lib.hid hT
  replace hcell := Lib.hid hcell
  replace hfcell := Lib.hid hfcell
  clear hv hf
  go_enter Tryd.func4, Tryd.ntmps4
  go_upto_region 2 with (fail)
  refine wp_gen (fun W => SectAt W w.heap.size .init ∧ Keeps w W) ⟨sect_new w, Keeps.alloc _ _⟩ ?_
  rintro W1 ⟨hS, hK⟩
  clear hz
  generalize hp : w.heap.size = p at *
  have hpw : w.heap.size ≤ p := by omega
  have hkD : ∀ (W W' : World), Keeps w W → Chg (· = p) W W' → Keeps w W' := fun W W' hk hc => Chg.keeps hc hk (fun k hk => by omega)
  replace hkD := Lib.hid hkD
  replace hS := Lib.hid hS
  replace hK := Lib.hid hK
  replace hp := Lib.hid hp
  replace hpw := Lib.hid hpw
  go_upto_block 0 with fail
  go_cut [6] (fun uu wx => ∃ l : List (Int × Bool), SectAt wx p (runD l) ∧ Deeds wx uu l ∧ Good l ∧ (∀ c, uu.ownBlock = some c → c ≠ p) ∧ Keeps w wx ∧ l.length ≤ 40)
  case first =>
    go_wp2_with fail
    go_loopw [6, 7] (fun uu i wr => ∃ (k : Nat) (l : List (Int × Bool)), k ≤ first.length ∧ k ≤ 40 ∧ i = .int .i64 k ∧ SectAt wr p (runD l) ∧ Deeds wr uu l ∧ Good l ∧ (∀ c, uu.ownBlock = some c → c ≠ p) ∧ Keeps w wr ∧ l.length ≤ k) (fun _ i _ => first.length - (intOf i).toNat)
    case atStart => exact ⟨0, [], Nat.zero_le _, Nat.zero_le _, rfl, hS.out, SlcS.nil 2 _, Good.nil, fun c hc => by simp [Value.ownBlock] at hc, hK.out, Nat.le_refl _⟩
    case round =>
      clear hS hK
      obtain ⟨k, l, hk, hk40, rfl, hS, hD, hg, hsep, hK, hll⟩ := hrel
      have hgo : (k < first.length ∧ k < 40) ∨ (k = first.length ∨ (k < first.length ∧ k = 40)) := by omega
      rcases hgo with ⟨hlt, h40⟩ | hend
      · obtain ⟨b, off, rfl, c0, c1⟩ := hfcell.out k hlt
        have d0 := (hK.cell (p := ⟨b, off + k * 2, none⟩) (cell_lt c0)).trans c0
        have d1 := (hK.cell (p := ⟨b, off + k * 2 + 1, none⟩) (cell_lt c1)).trans c1
        have hdo := doP_any hS hD hg hsep (by omega) first[k]
        clear c0 c1
        generalize first[k].1 = r at *
        generalize first[k].2 = o at *
        obtain ⟨uq, ucap, rfl, _⟩ := hD.get
        replace hdo := Lib.hid hdo
        replace hK := Lib.hid hK
        replace hsep := Lib.hid hsep
        replace hg := Lib.hid hg
        replace hD := Lib.hid hD
        clear hS
        go_wp2_with fail
        refine hdo.out.mono ?_
        rintro e w2 ⟨u2, l2, rfl, hS2, hD2, hgg, hs2, hl2, hC2⟩
        have hK2 := hkD.out _ _ hK.out hC2
        replace hS2 := Lib.hid hS2
        replace hD2 := Lib.hid hD2
        replace hs2 := Lib.hid hs2
        replace hgg := Lib.hid hgg
        replace hK2 := Lib.hid hK2
        clear hC2 hdo d0 d1
        go_wp2_with fail
        go_roundw
        case rel => exact ⟨k + 1, l2, by omega, by omega, by go_num, hS2.out, hD2.out, hgg.out, hs2.out, hK2.out, by omega⟩
        case measure => (simp [intOf]; try omega)
      · replace hS := Lib.hid hS
        replace hD := Lib.hid hD
        replace hg := Lib.hid hg
        replace hsep := Lib.hid hsep
        replace hK := Lib.hid hK
        rcases hend with hend | ⟨hend, h40⟩
        all_goals
          first
            | subst hend
            | subst h40
          go_wp2_with fail
          go_meet
          exact ⟨l, hS.out, hD.out, hg.out, hsep.out, hK.out, by omega⟩
  case rest =>
    clear hS hK hfcell
    obtain ⟨l, hS, hD, hg, hsep, hK, hll⟩ := hcut
    generalize wc = wr at *
    have hsc := scNew_any hS
    have hws := hK.size
    have hplt := hS.hdr.lt
    obtain ⟨x, hxe⟩ : ∃ x, x = wr.heap.size := ⟨_, rfl⟩
    rw [← hxe] at hsc hws hplt
    obtain ⟨c, hce⟩ : ∃ c, c = ScSt.mk (runD l).m (runD l).st 0 := ⟨_, rfl⟩
    rw [← hce] at hsc
    have hnew := fun (W : World) (hk : Keeps wr W) => r10New_any u6 l W (hD.keeps hk) hg (by omega)
    rw [show ((runD l).st : Int) = (c.began : Int) by rw [hce], show (runD l).m = c.left by rw [hce], show (0 : Int) = (c.place : Int) by rw [hce]; rfl] at hnew
    have hcm : c.left < 18446744073709551616 := by rw [hce]; exact (runD_ok l).word
    obtain ⟨uq, ucap, rfl, _⟩ := hD.get
    replace hsc := Lib.hid hsc
    replace hnew := Lib.hid hnew
    replace hD := Lib.hid hD
    replace hg := Lib.hid hg
    replace hsep := Lib.hid hsep
    replace hK := Lib.hid hK
    clear hS hxe
    replace hce := Lib.hid hce
    go_wp2_with fail
    refine hsc.out.mono ?_
    rintro e w2 ⟨rfl, hX, hK2⟩
    have hnew2 := hnew.out w2 hK2
    have hD2 := hD.out.keeps hK2
    have hKw2 := Keeps.trans hK.out hK2
    replace hD2 := Lib.hid hD2
    replace hKw2 := Lib.hid hKw2
    replace hX := Lib.hid hX
    replace hnew2 := Lib.hid hnew2
    clear hK hD hK2 hnew hsc
    go_wp2_with fail
    refine hnew2.out.mono ?_
    rintro e w3 ⟨v2, rfl, hB, hK3⟩
    have hone := hB.one
    obtain ⟨q, hqe⟩ : ∃ q, q = w3.heap.size := ⟨_, rfl⟩
    have hzz := Blk.at (W := w3) (t := 50) (cs := scCells 0 0 (.slice none 0 0)) (arr := (scCells 0 0 (.slice none 0 0)).toArray) (b := q) hqe rfl
    have hxl := hX.out.hdr.lt
    have h3 := hK3.size
    have hI : InvP w p x q l (.slice uq l.length ucap) c c v2 ((w3.alloc (.cells (scCells 0 0 (.slice none 0 0)).toArray 50)).setRow q (scCells c.began c.place v2).toArray) := by
      have hK4 : Keeps w2 ((w3.alloc (.cells (scCells 0 0 (.slice none 0 0)).toArray 50)).setRow q (scCells c.began c.place v2).toArray) :=
        Keeps.trans hK3 (Chg.keeps_new (S := fun k => k = q) ((Chg.of_keeps (Keeps.alloc _ _)).trans (Chg.setRow _ rfl)) (fun k hk => by omega))
      have hK5 : Keeps w3 ((w3.alloc (.cells (scCells 0 0 (.slice none 0 0)).toArray 50)).setRow q (scCells c.began c.place v2).toArray) :=
        Chg.keeps_new (S := fun k => k = q) ((Chg.of_keeps (Keeps.alloc _ _)).trans (Chg.setRow _ rfl)) (fun k hk => by omega)
      exact ⟨hX.out.keeps hK4, hD2.out.keeps hK4, hg.out, hsep.out, hzz.setRow _, hB.keeps hK5, hpw.out, hws, by have := hKw2.out.size; omega, by omega, by omega, Keeps.trans hKw2.out hK4⟩
    have hz0 := Blk.at (W := w3) (t := 50) (cs := scCells 0 0 (.slice none 0 0)) (arr := (scCells 0 0 (.slice none 0 0)).toArray) (b := w3.heap.size) rfl rfl
    replace hI := Lib.hid hI
    replace hz0 := Lib.hid hz0
    clear hzz
    replace hone := Lib.hid hone
    replace hqe := Lib.hid hqe
    clear hX hD2 hg hsep hB hK3 hKw2 hnew2
    go_upto_region 9 with (refine storeS hz0.out hone.out rfl _ _ rfl rfl rfl rfl ?_)
    rw [← hqe.out]
    refine wp_gen (fun W => InvP w p x q l (.slice uq l.length ucap) c c v2 W) hI.out ?_
    clear hI hz0 hqe hone hce hcm
    rintro W hI
    obtain ⟨hbeg, hlef, -, -, hwor, -, hrow, x0, -⟩ := hI.tells
    replace hI := Lib.hid hI
    replace hbeg := Lib.hid hbeg
    replace hlef := Lib.hid hlef
    replace hwor := Lib.hid hwor
    replace hrow := Lib.hid hrow
    refine region_after (by kernel_rfl) (by kernel_rfl) ?_
    iterate 8 go_big_quiet_step (first | (with_reducible exact hbeg.out _) | (with_reducible exact hlef.out _))
    refine quietRow hrow.out rfl 50 _ rfl rfl _ Tryd.underlying50 rfl 3 sizeSc rfl ?_
    go_frame
    repeat go_big_quiet_step (first | (with_reducible exact hwor.out _))
    refine wpQuiet_nil ?_
    rintro _ ⟨⟨W2, hK2⟩, rfl⟩
    replace hI := Lib.hid (hI.out.kept hK2)
    clear hbeg hlef hwor hrow x0 hK2
    go_wp2_with fail
    go_loopw [6, 10] (fun uu i wr => ∃ (k : Nat) (l : List (Int × Bool)) (c : ScSt) (v2 : Value), k ≤ acts.length ∧ k ≤ 40 ∧ i = .int .i64 k ∧ InvP w p x q l uu c c v2 wr ∧ l.length ≤ 40 + k) (fun _ i _ => acts.length - (intOf i).toNat)
    case atStart => exact ⟨0, l, c, v2, Nat.zero_le _, Nat.zero_le _, rfl, hI.out, by omega⟩
    case round =>
      clear hI hll
      obtain ⟨k, l, c, v2, hk, hk40, rfl, hI, hll⟩ := hrel
      have hgo : (k < acts.length ∧ k < 40) ∨ (k = acts.length ∨ (k < acts.length ∧ k = 40)) := by omega
      rcases hgo with ⟨hlt, h40⟩ | hend2
      · obtain ⟨ab, aoff, rfl, c0, c1, c2, c3⟩ := hcell.out k hlt
        have d0 := (hI.keeps.cell (p := ⟨ab, aoff + k * 4, none⟩) (cell_lt c0)).trans c0
        have d1 := (hI.keeps.cell (p := ⟨ab, aoff + k * 4 + 1, none⟩) (cell_lt c1)).trans c1
        have d2 := (hI.keeps.cell (p := ⟨ab, aoff + k * 4 + 2, none⟩) (cell_lt c2)).trans c2
        have d3 := (hI.keeps.cell (p := ⟨ab, aoff + k * 4 + 3, none⟩) (cell_lt c3)).trans c3
        clear c0 c1 c2 c3
        generalize acts[k].1 = kind at *
        generalize acts[k].2.1.1 = r at *
        generalize acts[k].2.1.2 = o at *
        generalize acts[k].2.2 = n at *
        replace hI := Lib.hid hI
        obtain ⟨A, hAe⟩ : ∃ A, A = wr.heap.size := ⟨_, rfl⟩
        go_upto_region 15 with (fail)
        rw [← hAe]
        refine wp_gen (fun W => InvP w p x q l u6 c c v2 W ∧ Blk W A 55 [.int .i64 kind, .int .i64 r, .bool o, .int .i64 n] ∧ Keeps wr W) ⟨hI.out.kept (Keeps.alloc _ _), Blk.at hAe rfl, Keeps.alloc _ _⟩ ?_
        rintro W ⟨hI2, hA, hKr⟩
        have hAq : A ≠ q ∧ A ≠ x ∧ A ≠ p := by have h1 := hI.out.blk.lt; have h2 := hI.out.scan.hdr.lt; have h3 := hI.out.scan.sect.hdr.lt; omega
        clear hI d0 d1 d2 d3 hAe hKr
        obtain ⟨K, hK3, eK⟩ := wrap_mod kind 3 (by decide)
        have a0 := hA.cell 0 (by simp)
        simp only [List.getElem_cons_zero] at a0
        replace hI2 := Lib.hid hI2
        replace hA := Lib.hid hA
        go_upto_block 4 with fail
        go_cut [6] (fun uu wx => ∃ (l : List (Int × Bool)) (c : ScSt) (v2 : Value), InvP w p x q l uu c c v2 wx ∧ l.length ≤ 40 + (k + 1))
        case first =>
          clear a0 eK
          have a1 := hA.out.cell 1 (by simp)
          have a2 := hA.out.cell 2 (by simp)
          have a3 := hA.out.cell 3 (by simp)
          simp only [List.getElem_cons_zero, List.getElem_cons_succ] at a1 a2 a3
          have hK : K = 0 ∨ K = 1 ∨ K = 2 := by omega
          rcases hK with rfl | rfl | rfl
          · have hdo := doP_any hI2.out.scan.sect hI2.out.deeds hI2.out.good hI2.out.sep (by omega) (r, o)
            replace hdo := Lib.hid hdo
            go_wp2_with fail
            refine hdo.out.mono ?_
            rintro e w4 ⟨u2, l2, rfl, hS2, hD2, hg2, hs2, hl2, hC2⟩
            have hI3 := hI2.out.did hS2 hD2 hg2 hs2 hC2
            replace hI3 := Lib.hid hI3
            clear hdo hS2 hD2 hg2 hs2 hC2 hI2 hA a1 a2 a3
            go_wp2_with fail
            go_meet
            exact ⟨l2, c, v2, hI3.out, by omega⟩
          · have hpo := poll_told c hI2.out.scan.ok.place v2 u6 l n W hI2.out.bools hI2.out.deeds hI2.out.good (by omega)
            have hone2 := hI2.out.bools.one
            have hdd := hI2.out.deeds
            obtain ⟨uq2, ucap2, rfl, _⟩ := hdd.get
            have hxx := fun (W : World) (hX : ScanAt W x p (runD l) c) (hT : TabAt W) => poll_any hX hT n
            generalize Proofs.YtpncnddlmlciaaaDoor.poll (runD l) c n = cP at *
            replace hpo := Lib.hid hpo
            replace hxx := Lib.hid hxx
            replace hone2 := Lib.hid hone2
            clear hdd
            go_wp2_with (refine loadS hI2.out.blk rfl _ rfl rfl ?_)
            refine hpo.out.mono ?_
            rintro e W2 ⟨v3, rfl, hB3, hK2⟩
            have hI3 := hI2.out.kept hK2
            have hI4 := hI3.told hB3
            have hA4 := (hA.out.keeps hK2).chg (Chg.setRow (S := fun k => k = q) (scCells cP.began cP.place v3).toArray rfl) hAq.1
            have hone3 := hB3.one
            replace hI3 := Lib.hid hI3
            replace hI4 := Lib.hid hI4
            replace hA4 := Lib.hid hA4
            replace hone3 := Lib.hid hone3
            clear hI2 hA hpo hB3 hK2 a1 a2 a3 hone2
            go_upto_region 25 with (refine storeS hI3.out.blk hone3.out rfl _ _ rfl rfl rfl rfl ?_)
            refine wp_gen (fun W => InvP w p x q l (.slice uq2 l.length ucap2) c cP v3 W ∧ Blk W A 55 [.int .i64 kind, .int .i64 r, .bool o, .int .i64 n]) ⟨hI4.out, hA4.out⟩ ?_
            clear hI3 hI4 hA4
            rintro W5 ⟨hI5, hA5⟩
            have a3 := hA5.cell 3 (by simp)
            have b0 := hI5.blk.cell 0 (by simp [scCells])
            have b1 := hI5.blk.cell 1 (by simp [scCells])
            have b2 := hI5.blk.cell 2 (by simp [scCells])
            simp only [scCells, List.getElem_cons_zero, List.getElem_cons_succ] at a3 b0 b1 b2
            have hI6 := hI5.kept (Keeps.drew W5)
            have hx6 := hxx.out _ hI6.scan (hT.out.keeps hI6.keeps)
            replace hx6 := Lib.hid hx6
            replace hI6 := Lib.hid hI6
            clear hA5 hI5 hxx
            go_region_with
              (first
                | (go_at_call 14; with_reducible refine hx6.out.mono ?_; rintro e W6 ⟨rfl, hX6, hC6⟩; have hI7 := hI6.out.prog hX6 hC6; have e0 := hI7.blk.cell 0 (by simp [scCells]); have e1 := hI7.blk.cell 1 (by simp [scCells]); have e2 := hI7.blk.cell 2 (by simp [scCells]); simp only [scCells, List.getElem_cons_zero, List.getElem_cons_succ] at e0 e1 e2; have hcn := count_at cP.began cP.place v3 cP.left _ hI7.bools; replace hcn := Lib.hid hcn; replace hI7 := Lib.hid hI7; clear hX6 hC6)
                | (go_at_call 21; with_reducible refine hcn.out.mono ?_; rintro e W7 ⟨rfl, hK7⟩; replace hK7 := Lib.hid hK7))
            all_goals
              have hI8 := hI7.out.kept hK7.out
              replace hI8 := Lib.hid hI8
              clear hK7 hcn
              go_wp2_with fail
              go_meet
              exact ⟨l, cP, v3, hI8.out, by omega⟩
          · have hlo := look_told c v2 u6 l r W hI2.out.bools hI2.out.deeds hI2.out.good (by omega)
            have hone2 := hI2.out.bools.one
            have hdd := hI2.out.deeds
            obtain ⟨uq2, ucap2, rfl, _⟩ := hdd.get
            have hqu := fun (W : World) (h : ScanAt W x p (runD l) c) => quiet_two h r
            generalize look (runD l) c r = c3 at *
            replace hlo := Lib.hid hlo
            replace hqu := Lib.hid hqu
            replace hone2 := Lib.hid hone2
            clear hdd
            cases hB : lookB (runD l) c r with
            | true =>
              have hlo := hlo.out
              have hqu := hqu.out
              rw [hB] at hlo hqu
              simp only [if_true] at hqu
              replace hlo := Lib.hid hlo
              replace hqu := Lib.hid hqu
              clear hB
              go_wp2_with (refine loadS hI2.out.blk rfl _ rfl rfl ?_)
              refine hlo.out.mono ?_
              rintro e W2 ⟨v3, rfl, hB3, hK2⟩
              have hone3 := hB3.one
              have hz := Blk.at (W := W2) (t := 50) (cs := scCells 0 0 (.slice none 0 0)) (arr := (scCells 0 0 (.slice none 0 0)).toArray) (b := W2.heap.size) rfl rfl
              obtain ⟨N, hN⟩ : ∃ N, N = W2.heap.size := ⟨_, rfl⟩
              have hKN : Keeps W2 ((W2.alloc (.cells (scCells 0 0 (.slice none 0 0)).toArray 50)).setRow N (scCells c3.began c3.place v3).toArray) :=
                Chg.keeps_new (S := fun k => k = N) ((Chg.of_keeps (Keeps.alloc _ _)).trans (Chg.setRow _ rfl)) (fun k hk => by omega)
              have hI3 := (hI2.out.kept hK2).kept hKN
              have hA3 := (hA.out.keeps hK2).keeps hKN
              have hB4 := hB3.keeps hKN
              have hz2 : Blk ((W2.alloc (.cells (scCells 0 0 (.slice none 0 0)).toArray 50)).setRow N (scCells c3.began c3.place v3).toArray) N 50 (scCells c3.began c3.place v3) := by subst hN; exact hz.setRow _
              have hNx : N ≠ x := by have h1 := (hI2.out.kept hK2).scan.hdr.lt; omega
              replace hI3 := Lib.hid hI3
              replace hA3 := Lib.hid hA3
              replace hB4 := Lib.hid hB4
              replace hz := Lib.hid hz
              replace hz2 := Lib.hid hz2
              replace hone3 := Lib.hid hone3
              replace hN := Lib.hid hN
              clear hI2 hA hlo hB3 hK2 a1 a2 a3 hKN
              go_upto_region 17 with (refine storeS hz.out hone3.out rfl _ _ rfl rfl rfl rfl ?_)
              rw [← hN.out]
              refine wp_gen (fun W => InvP w p x q l (.slice uq2 l.length ucap2) c c v2 W ∧ Blk W A 55 [.int .i64 kind, .int .i64 r, .bool o, .int .i64 n] ∧ Bools W v3 c3.left ∧ Blk W N 50 (scCells c3.began c3.place v3)) ⟨hI3.out, hA3.out, hB4.out, hz2.out⟩ ?_
              clear hI3 hA3 hB4 hz hz2 hN
              rintro W5 ⟨hI5, hA5, hB5, hN5⟩
              have a1 := hA5.cell 1 (by simp)
              simp only [List.getElem_cons_zero, List.getElem_cons_succ] at a1
              have hq5 := hqu.out _ hI5.scan
              replace hI5 := Lib.hid hI5
              replace hA5 := Lib.hid hA5
              replace hB5 := Lib.hid hB5
              replace hN5 := Lib.hid hN5
              replace hq5 := Lib.hid hq5
              go_wp2_with fail
              refine hq5.out.mono ?_
              rintro e W6 ⟨rfl, hX6, hC6⟩
              have hI6 := hI5.out.prog hX6 hC6
              have hn := noB_scan (.pointer (some ⟨p, 0, none⟩)) (c.left : Int) (c.began : Int) (c.place : Int) (fun _ e => by cases e)
              have hB6 := Slc.chg hB5.out hC6 (Bools.apart hB5.out hI5.out.scan.hdr hn)
              have hN6 := hN5.out.chg hC6 hNx
              have hI7 := hI6.told hB6
              replace hI6 := Lib.hid hI6
              replace hI7 := Lib.hid hI7
              replace hN6 := Lib.hid hN6
              clear hI5 hA5 hB5 hN5 hq5 hX6 hC6 hn hB6 a1
              go_wp2_with (first | (refine loadS hN6.out rfl _ rfl rfl ?_) | (refine storeS hI6.out.blk hone3.out rfl _ _ rfl rfl rfl rfl ?_))
              go_meet
              exact ⟨l, c3, v3, hI7.out, by omega⟩
            | false =>
              have hlo := hlo.out
              have hqu := hqu.out
              rw [hB] at hlo hqu
              simp only [Bool.false_eq_true, if_false] at hqu
              replace hlo := Lib.hid hlo
              replace hqu := Lib.hid hqu
              clear hB
              go_wp2_with (refine loadS hI2.out.blk rfl _ rfl rfl ?_)
              refine hlo.out.mono ?_
              rintro e W2 ⟨v3, rfl, hB3, hK2⟩
              have hone3 := hB3.one
              have hz := Blk.at (W := W2) (t := 50) (cs := scCells 0 0 (.slice none 0 0)) (arr := (scCells 0 0 (.slice none 0 0)).toArray) (b := W2.heap.size) rfl rfl
              obtain ⟨N, hN⟩ : ∃ N, N = W2.heap.size := ⟨_, rfl⟩
              have hKN : Keeps W2 ((W2.alloc (.cells (scCells 0 0 (.slice none 0 0)).toArray 50)).setRow N (scCells c3.began c3.place v3).toArray) :=
                Chg.keeps_new (S := fun k => k = N) ((Chg.of_keeps (Keeps.alloc _ _)).trans (Chg.setRow _ rfl)) (fun k hk => by omega)
              have hI3 := (hI2.out.kept hK2).kept hKN
              have hA3 := (hA.out.keeps hK2).keeps hKN
              have hB4 := hB3.keeps hKN
              have hz2 : Blk ((W2.alloc (.cells (scCells 0 0 (.slice none 0 0)).toArray 50)).setRow N (scCells c3.began c3.place v3).toArray) N 50 (scCells c3.began c3.place v3) := by subst hN; exact hz.setRow _
              have hNx : N ≠ x := by have h1 := (hI2.out.kept hK2).scan.hdr.lt; omega
              replace hI3 := Lib.hid hI3
              replace hA3 := Lib.hid hA3
              replace hB4 := Lib.hid hB4
              replace hz := Lib.hid hz
              replace hz2 := Lib.hid hz2
              replace hone3 := Lib.hid hone3
              replace hN := Lib.hid hN
              clear hI2 hA hlo hB3 hK2 a1 a2 a3 hKN
              go_upto_region 17 with (refine storeS hz.out hone3.out rfl _ _ rfl rfl rfl rfl ?_)
              rw [← hN.out]
              refine wp_gen (fun W => InvP w p x q l (.slice uq2 l.length ucap2) c c v2 W ∧ Blk W A 55 [.int .i64 kind, .int .i64 r, .bool o, .int .i64 n] ∧ Bools W v3 c3.left ∧ Blk W N 50 (scCells c3.began c3.place v3)) ⟨hI3.out, hA3.out, hB4.out, hz2.out⟩ ?_
              clear hI3 hA3 hB4 hz hz2 hN
              rintro W5 ⟨hI5, hA5, hB5, hN5⟩
              have a1 := hA5.cell 1 (by simp)
              simp only [List.getElem_cons_zero, List.getElem_cons_succ] at a1
              have hq5 := hqu.out _ hI5.scan
              replace hI5 := Lib.hid hI5
              replace hA5 := Lib.hid hA5
              replace hB5 := Lib.hid hB5
              replace hN5 := Lib.hid hN5
              replace hq5 := Lib.hid hq5
              go_wp2_with fail
              refine hq5.out.mono ?_
              rintro e W6 ⟨rfl, hX6, hC6⟩
              have hI6 := hI5.out.prog hX6 hC6
              have hn := noB_scan (.pointer (some ⟨p, 0, none⟩)) (c.left : Int) (c.began : Int) (c.place : Int) (fun _ e => by cases e)
              have hB6 := Slc.chg hB5.out hC6 (Bools.apart hB5.out hI5.out.scan.hdr hn)
              have hN6 := hN5.out.chg hC6 hNx
              have hI7 := hI6.told hB6
              replace hI6 := Lib.hid hI6
              replace hI7 := Lib.hid hI7
              replace hN6 := Lib.hid hN6
              clear hI5 hA5 hB5 hN5 hq5 hX6 hC6 hn hB6 a1
              go_wp2_with (first | (refine loadS hN6.out rfl _ rfl rfl ?_) | (refine storeS hI6.out.blk hone3.out rfl _ _ rfl rfl rfl rfl ?_))
              go_meet
              exact ⟨l, c3, v3, hI7.out, by omega⟩
        case rest =>
          obtain ⟨l, c, v2, hI, hll2⟩ := hcut
          obtain ⟨hbeg, hlef, hpla, hdon, hwor, hcou, hrow, x0, x1⟩ := hI.tells
          have hz0 : (decide (c.left = 0) = true ∧ lenN c.left = 0) ∨ (decide (c.left = 0) = false ∧ 0 < lenN c.left) := by
            by_cases h0 : c.left = 0
            · left; rw [h0]; exact ⟨rfl, rfl⟩
            · right
              refine ⟨decide_eq_false h0, ?_⟩
              rcases Nat.eq_zero_or_pos (lenN c.left) with h1 | h1
              · exact absurd (lenN_zero _ hI.scan.ok.word (List.eq_nil_of_length_eq_zero h1)) h0
              · exact h1
          generalize decide (c.left = 0) = B at *
          generalize lenN c.left = L at *
          replace hI := Lib.hid hI
          replace hbeg := Lib.hid hbeg
          replace hlef := Lib.hid hlef
          replace hpla := Lib.hid hpla
          replace hdon := Lib.hid hdon
          replace hwor := Lib.hid hwor
          replace hcou := Lib.hid hcou
          replace hrow := Lib.hid hrow
          clear hI2 hA a0 eK
          rcases hz0 with ⟨rfl, rfl⟩ | ⟨rfl, hL⟩
          · go_wp2_with fail
            refine region_after (by kernel_rfl) (by kernel_rfl) ?_
            iterate 2 go_big_quiet_step (first | (with_reducible exact hbeg.out _) | (with_reducible exact hlef.out _))
            refine quietRow hrow.out rfl 50 _ rfl rfl _ Tryd.underlying50 rfl 3 sizeSc rfl ?_
            go_frame
            iterate 12 go_big_quiet_step (first | (with_reducible exact hwor.out _) | (with_reducible exact hpla.out _) | (with_reducible exact hdon.out _))
            refine quietRow hrow.out rfl 50 _ rfl rfl _ Tryd.underlying50 rfl 3 sizeSc rfl ?_
            go_frame
            repeat go_big_quiet_step (first | (with_reducible exact hcou.out _) | (with_reducible exact hbeg.out _))
            refine wpQuiet_nil ?_
            rintro _ ⟨⟨W2, hK2⟩, rfl⟩
            replace hI := Lib.hid (hI.out.kept hK2)
            clear hbeg hlef hpla hdon hwor hcou hrow x0 x1 hK2
            go_wp2_with fail
            go_roundw
            case rel => exact ⟨k + 1, l, c, v2, by omega, by omega, by go_num, hI.out, by omega⟩
            case measure => (simp [intOf]; try omega)
          · have e1 : ((L : Int) == 0) = false := by simp; omega
            go_wp2_with fail
            refine region_after (by kernel_rfl) (by kernel_rfl) ?_
            iterate 2 go_big_quiet_step (first | (with_reducible exact hbeg.out _) | (with_reducible exact hlef.out _))
            refine quietRow hrow.out rfl 50 _ rfl rfl _ Tryd.underlying50 rfl 3 sizeSc rfl ?_
            go_frame
            iterate 12 go_big_quiet_step (first | (with_reducible exact hwor.out _) | (with_reducible exact hpla.out _) | (with_reducible exact hdon.out _))
            refine quietRow hrow.out rfl 50 _ rfl rfl _ Tryd.underlying50 rfl 3 sizeSc rfl ?_
            go_frame
            repeat go_big_quiet_step (first | (with_reducible exact hcou.out _) | (with_reducible exact hbeg.out _))
            refine wpQuiet_nil ?_
            rintro _ ⟨⟨W2, hK2⟩, rfl⟩
            replace hI := Lib.hid (hI.out.kept hK2)
            clear hbeg hlef hpla hdon hwor hcou hrow x0 x1 hK2
            go_wp2_with fail
            go_roundw
            case rel => exact ⟨k + 1, l, c, v2, by omega, by omega, by go_num, hI.out, by omega⟩
            case measure => (simp [intOf]; try omega)
      · replace hI := Lib.hid hI
        clear hcell
        rcases hend2 with hend2 | ⟨hend2, h40⟩
        all_goals
          first
            | subst hend2
            | subst h40
          go_wp2_with fail
          refine (known10_any _ (hT.out.keeps hI.out.keeps)).mono ?_
          rintro e w2 ⟨rfl, hK2⟩
          go_wp2_with fail
          go_ret
          exact ⟨rfl, Keeps.trans hI.out.keeps hK2⟩
end Go.Proofs.YtpncnddlmlciaaaDoor
