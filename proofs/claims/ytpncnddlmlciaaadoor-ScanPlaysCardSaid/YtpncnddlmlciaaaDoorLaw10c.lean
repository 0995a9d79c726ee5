/- The law ScanEnds: what its walk comes to. -/
import Derived.Test.YtpncnddlmlciaaaDoorLaw10b
import Derived.Test.YtpncnddlmlciaaaDoorEndsM
namespace Go.Proofs.YtpncnddlmlciaaaDoor
open Go.RowKit Go.Shelf

/-- The list of a mask, in memory that is not p's and not x's. -/
structure Lis (W : World) (lp : Option Addr) (m p x : Nat) : Prop where
  cell : ∀ k, k < lenN m → ∃ b off, lp = some ⟨b, off, none⟩ ∧ W.cell? ⟨b, off + k, none⟩ = some (.int .i64 ((elN m k : Nat) : Int))
  far : ∀ b off, lp = some ⟨b, off, none⟩ → b ≠ p ∧ b ≠ x
theorem Lis.keeps {W W' : World} {lp : Option Addr} {m p x : Nat} (h : Lis W lp m p x) (hk : Keeps W W') : Lis W' lp m p x :=
  ⟨fun k hl => by
    obtain ⟨b, off, e, hc⟩ := h.cell k hl
    exact ⟨b, off, e, (hk.cell (p := ⟨b, off + k, none⟩) (cell_lt hc)).trans hc⟩, h.far⟩
theorem Lis.chg {W W' : World} {lp : Option Addr} {m p x y : Nat} (h : Lis W lp m p x) (hC : Chg (· = y) W W') (hy : y = p ∨ y = x) : Lis W' lp m p x :=
  ⟨fun k hl => by
    obtain ⟨b, off, e, hc⟩ := h.cell k hl
    have := h.far b off e
    exact ⟨b, off, e, (World.cell?_of_block (w := W) (hC.block b (cell_lt hc) (by rcases hy with rfl | rfl <;> omega))).trans hc⟩, h.far⟩
/-- What holds from the list on. -/
structure EndI (w : World) (x p : Nat) (lp : Option Addr) (m : Nat) (T : SSt) (c : ScSt) (W : World) : Prop where
  hp : w.heap.size ≤ p
  hx : w.heap.size ≤ x
  scan : ScanAt W x p T c
  keeps : Keeps w W
  lis : Lis W lp m p x
theorem EndI.kept {w : World} {x p : Nat} {lp : Option Addr} {m : Nat} {T : SSt} {c : ScSt} {W W' : World} (h : EndI w x p lp m T c W) (hk : Keeps W W') : EndI w x p lp m T c W' :=
  ⟨h.hp, h.hx, h.scan.keeps hk, Keeps.trans h.keeps hk, h.lis.keeps hk⟩
theorem EndI.sect {w : World} {x p : Nat} {lp : Option Addr} {m : Nat} {T T2 : SSt} {c : ScSt} {W W' : World} (h : EndI w x p lp m T c W) (hC : Chg (· = p) W W') (hS : SectAt W' p T2) : EndI w x p lp m T2 c W' :=
  ⟨h.hp, h.hx, h.scan.resect hC hS, Chg.keeps hC h.keeps (fun k hk => by have := h.hp; omega), h.lis.chg hC (.inl rfl)⟩
theorem EndI.poll {w : World} {x p : Nat} {lp : Option Addr} {m : Nat} {T : SSt} {c c2 : ScSt} {W W' : World} (h : EndI w x p lp m T c W) (hC : Chg (· = x) W W') (hX : ScanAt W' x p T c2) : EndI w x p lp m T c2 W' :=
  ⟨h.hp, h.hx, hX, Chg.keeps hC h.keeps (fun k hk => by have := h.hx; omega), h.lis.chg hC (.inr rfl)⟩
theorem depI_nat (T : SSt) (r : Nat) (hr : r < 64) : T.depI (r : Int) = (T.dep r : Nat) := by unfold SSt.depI; rw [if_pos (by omega), Int.toNat_natCast]
theorem exiE_nat (T : SSt) (r : Nat) (hr : r < 64) (h : T.dep r ≠ 0) : T.exiE (r : Int) = 0 := by unfold SSt.exiE; rw [if_pos (by omega), Int.toNat_natCast, if_neg h]
theorem natInts_at (m k : Nat) (hk : k < lenN m) : (natInts (listN m)).getD k undef = .int .i64 ((elN m k : Nat) : Int) := by
  have : k < (listN m).length := hk
  simp [natInts, elN, List.getD, this]
theorem lis_of_row {W : World} {base p x : Nat} {v : Value} {m : Nat} (h : W.ownsRow base 3 1 v (lenN m) (natInts (listN m))) (hp : p < base) (hx : x < base) : ∃ lp cap, v = .slice lp (lenN m) cap ∧ lenN m ≤ cap ∧ cap ≤ 9223372036854775807 ∧ Lis W lp m p x := by
  have hlt := slc_row_lt h
  obtain ⟨q, cap, hv, hl, hc, _, hcell⟩ := slc_of_row h
  rw [natInts_len] at hv hl hcell
  refine ⟨q, cap, hv, hl, hc, ⟨fun k hk => ?_, fun b off e => ?_⟩⟩
  · obtain ⟨b, off, e, hcc⟩ := hcell k hk
    exact ⟨b, off, e, by rw [hcc, natInts_at m k hk]⟩
  · have := hlt b off _ _ (by rw [hv, e])
    omega

set_option maxRecDepth 100000 in
set_option maxHeartbeats 4000000 in
theorem lawEnds_any (fv v : Value) (first : List (Int × Bool)) (since : List Int) (n : Int) (w : World) (hf : Deeds w fv first) (hv : Ints w v since) (hT : TabAt w) :
    Calls Tryd.prog 3 #[fv, .int .i64 n, v] w fun e w' => e = .returned (.bool true) ∧ Keeps w w' := by
  obtain ⟨fp, fcap, rfl, hfl, hfc, hfcell⟩ := hf.get
  obtain ⟨sp, scap, rfl, hsl, hsm, hscell⟩ := hv.open
  obtain ⟨N, hN, eN⟩ := wrap_mod n 64 (by decide)
  have hz := zeroSect
  replace hT := Lib.hid hT
  replace hscell := Lib.hid hscell
  replace hfcell := Lib.hid hfcell
  clear hv hf
  go_enter Tryd.func3, Tryd.ntmps3
  go_upto_region 2 with (fail)
  refine wp_gen (fun W => SectAt W w.heap.size .init ∧ Keeps w W) ⟨sect_new w, Keeps.alloc _ _⟩ ?_
  rintro W1 ⟨hS, hK⟩
  clear hz
  generalize hp : w.heap.size = p at *
  have hpw : w.heap.size ≤ p := by omega
  have hkD : ∀ (W W' : World), Keeps w W → Chg (· = p) W W' → Keeps w W' := fun W W' hk hc => Chg.keeps hc hk (fun k hk => by omega)
  replace hkD := Lib.hid hkD
  replace hS := Lib.hid hS
  replace hK := Lib.hid hK
  replace hp := Lib.hid hp
  replace hpw := Lib.hid hpw
  go_wp2_with fail
  go_loopw [8] (fun i wr => ∃ (k : Nat) (S : SSt), k ≤ first.length ∧ k ≤ 40 ∧ i = .int .i64 k ∧ SectAt wr p S ∧ Keeps w wr ∧ S.st ≤ k) (fun i _ => first.length - (intOf i).toNat)
  case atStart => exact ⟨0, .init, Nat.zero_le _, Nat.zero_le _, rfl, hS.out, hK.out, Nat.le_refl _⟩
  case round =>
    clear hS hK
    obtain ⟨k, S, hk, hk40, rfl, hS, hK, hst⟩ := hrel
    have hgo : (k < first.length ∧ k < 40) ∨ (k = first.length ∨ (k < first.length ∧ k = 40)) := by omega
    rcases hgo with ⟨hlt, h40⟩ | hend
    · obtain ⟨b, off, rfl, c0, c1⟩ := hfcell.out k hlt
      have d0 := (hK.cell (p := ⟨b, off + k * 2, none⟩) (cell_lt c0)).trans c0
      have d1 := (hK.cell (p := ⟨b, off + k * 2 + 1, none⟩) (cell_lt c1)).trans c1
      have hdo := doNil_any hS (by omega) first[k]
      have hst1 := S.step_st first[k]
      clear c0 c1
      generalize S.step first[k] = S2 at *
      generalize first[k].1 = r at *
      generalize first[k].2 = o at *
      replace hdo := Lib.hid hdo
      replace hK := Lib.hid hK
      clear hS
      go_wp2_with fail
      refine hdo.out.mono ?_
      rintro e w2 ⟨q, n', c', rfl, hS2, hC2⟩
      have hK2 := hkD.out _ _ hK.out hC2
      replace hS2 := Lib.hid hS2
      replace hK2 := Lib.hid hK2
      clear hC2 hdo d0 d1
      go_wp2_with fail
      go_roundw
      case rel => exact ⟨k + 1, S2, by omega, by omega, by go_num, hS2.out, hK2.out, by omega⟩
      case measure => (simp [intOf]; try omega)
    · have hsc := scNew_any hS
      have hok := hS.ok
      have hws := hK.size
      have hplt := hS.hdr.lt
      obtain ⟨x, hxe⟩ : ∃ x, x = wr.heap.size := ⟨_, rfl⟩
      rw [← hxe] at hsc hws hplt
      have hOu := Outs.start hok
      obtain ⟨c, hce⟩ : ∃ c, c = ScSt.mk S.m S.st 0 := ⟨_, rfl⟩
      have hcb : c.began = S.st := by rw [hce]
      have hcm : c.left = S.m := by rw [hce]
      rw [← hce] at hsc
      rw [← hcm] at hOu
      replace hcb := Lib.hid hcb
      replace hsc := Lib.hid hsc
      replace hK := Lib.hid hK
      replace hOu := Lib.hid hOu
      clear hS hxe hfcell hce hcm hok
      rcases hend with hend | ⟨hend, h40⟩
      all_goals
        first
          | subst hend
          | subst h40
        go_wp2_with fail
        refine hsc.out.mono ?_
        rintro e w2 ⟨rfl, hX, hK2⟩
        have hle := left_any hX
        have hxlt := hX.hdr.lt
        replace hK := Lib.hid (Keeps.trans hK.out hK2)
        have hli := list_any c.left w2 hX.ok.word (hT.out.keeps hK.out)
        replace hX := Lib.hid hX
        replace hle := Lib.hid hle
        replace hli := Lib.hid hli
        clear hsc hK2
        generalize hm : c.left = m at *
        have hl64 : lenN m ≤ 64 := listN_len _
        go_wp2_with fail
        refine hle.out.mono ?_
        rintro e w3 ⟨rfl, rfl⟩
        clear hle
        go_wp2_with fail
        refine hli.out.mono ?_
        rintro e w4 ⟨lv, rfl, hrow, hK4⟩
        obtain ⟨lp, lcap, rfl, hlc, hlm, hLis⟩ := lis_of_row hrow (show p < _ by omega) hxlt
        have hE : EndI w x p lp m S c w4 := ⟨hpw.out, hws, hX.out.keeps hK4, Keeps.trans hK.out hK4, hLis⟩
        clear hrow hK4 hLis hli hX hK hxlt hplt
        generalize hL : lenN m = L at *
        have hL2 := hL
        replace hE := Lib.hid hE
        replace hm := Lib.hid hm
        replace hL := Lib.hid hL
        replace hL2 := Lib.hid hL2
        clear hkD
        go_wp2_with fail
        go_loopw [11] (fun i wr => ∃ (k : Nat) (T : SSt), k ≤ L ∧ i = .int .i64 k ∧ EndI w x p lp m T c wr ∧ T.st = S.st ∧ Outs m k T) (fun i _ => L - (intOf i).toNat)
        case atStart => exact ⟨0, S, Nat.zero_le _, rfl, hE.out, rfl, hOu.out⟩
        case round =>
          clear hE hOu
          obtain ⟨k, T, hk, rfl, hE, hTs, hO⟩ := hrel
          by_cases hlt : k < L
          · obtain ⟨lb, loff, hlp, _⟩ := hE.lis.cell k (by have := hL.out; omega)
            subst hlp
            have hge := listN_get m k (by have := hL.out; omega)
            have hcell : ∀ (W : World) (T : SSt), EndI w x p (some ⟨lb, loff, none⟩) m T c W → W.cell? ⟨lb, loff + k, none⟩ = some (.int .i64 ((elN m k : Nat) : Int)) := fun W T h => by
              obtain ⟨b, off, e, hc⟩ := h.lis.cell k (by have := hL.out; omega)
              obtain ⟨rfl, rfl⟩ : lb = b ∧ loff = off := by simpa using e
              exact hc
            have hnx : ∀ T : SSt, Outs m k T → T.dep (elN m k) = 0 → Outs m (k + 1) T := fun T h h0 => h.next h0
            have hd8 := hE.scan.sect.ok.dep8 (elN m k)
            have hge1 : elN m k < 64 := hge.1
            generalize elN m k = r at *
            replace hE := Lib.hid hE
            replace hO := Lib.hid hO
            replace hcell := Lib.hid hcell
            replace hnx := Lib.hid hnx
            clear hge
            obtain ⟨wo, rfl⟩ : ∃ wo : World, wo = wr := ⟨_, rfl⟩
            go_wp2_with fail
            go_loopw [12] (fun i wr => ∃ (q : Nat) (T : SSt), i = .int .i64 q ∧ EndI w x p (some ⟨lb, loff, none⟩) m T c wr ∧ T.st = S.st ∧ Outs m k T ∧ T.dep r + q ≤ 8) (fun i _ => 9 - (intOf i).toNat)
            case atStart => exact ⟨0, T, rfl, hE.out, hTs, hO.out, by omega⟩
            case round =>
              clear hE hO hd8 hTs
              obtain ⟨q, T2, rfl, hE, hTs, hO, hdq⟩ := hrel
              have c0 := hcell.out _ _ hE
              have hde := depth_any hE.scan.sect (r : Int)
              have hok2 := hE.scan.sect.ok
              rw [depI_nat T2 r hge1] at hde
              have hq9 : q < 9 := by omega
              by_cases hd0 : T2.dep r = 0
              · rw [hd0] at hde
                replace hE := Lib.hid hE
                replace hO := Lib.hid hO
                replace hde := Lib.hid hde
                clear hok2
                go_wp2_with fail
                refine hde.out.mono ?_
                rintro e w5 ⟨rfl, hK5⟩
                have hE5 := hE.out.kept hK5
                replace hE5 := Lib.hid hE5
                clear hE hK5 hde
                go_wp2_with fail
                go_roundw
                case rel => exact ⟨k + 1, T2, by omega, by go_num, hE5.out, hTs, hnx.out _ hO.out hd0⟩
                case measure => (simp [intOf]; try omega)
              · have hexa := fun (W : World) (h : SectAt W p T2) => exit_any h (r : Int)
                rw [exiE_nat T2 r hge1 hd0] at hexa
                have hdep2 := SSt.exi_dep hok2 r hge1 r
                rw [if_pos rfl] at hdep2
                have hO2 := hO.exi hok2 r hge1
                have hst2 := T2.exi_st (r : Int)
                generalize T2.exi (r : Int) = T3 at *
                generalize T2.exiB (r : Int) = B at *
                generalize T2.dep r = d at *
                have hd1 : 1 ≤ d := by omega
                replace hE := Lib.hid hE
                replace hO2 := Lib.hid hO2
                replace hde := Lib.hid hde
                replace hexa := Lib.hid hexa
                clear hok2 hO
                go_wp2_with fail
                refine hde.out.mono ?_
                rintro e w5 ⟨rfl, hK5⟩
                have hE5 := hE.out.kept hK5
                have c5 := hcell.out _ _ hE5
                have hex5 := hexa.out _ hE5.scan.sect
                replace hE5 := Lib.hid hE5
                replace hex5 := Lib.hid hex5
                clear hE hK5 hde hexa c0
                go_wp2_with fail
                refine hex5.out.mono ?_
                rintro e w6 ⟨rfl, hS6, hC6⟩
                have hE6 := hE5.out.sect hC6 hS6
                replace hE6 := Lib.hid hE6
                clear hE5 hS6 hC6 hex5 c5
                go_wp2_with fail
                go_roundw
                case rel => exact ⟨q + 1, T3, by go_num, hE6.out, by omega, hO2.out, by omega⟩
                case measure => (simp [intOf]; try omega)
          · obtain rfl : k = L := by omega
            have hLa := (by have := hL.out; rw [← this] at hO; exact hO.late c.began : Late c.began T)
            replace hE := Lib.hid hE
            replace hLa := Lib.hid hLa
            have hcbs : c.began = T.st := by have := hcb.out; omega
            have hTs40 : T.st ≤ 40 := by omega
            have hcb2 := hcbs
            replace hcbs := Lib.hid hcbs
            clear hO hTs hcb
            obtain ⟨wo, rfl⟩ : ∃ wo : World, wo = wr := ⟨_, rfl⟩
            generalize hcbg : c.began = b0 at *
            replace hcbg := Lib.hid hcbg
            go_wp2_with fail
            go_loopw [15] (fun i wr => ∃ (q : Nat) (T2 : SSt), q ≤ since.length ∧ q ≤ 12 ∧ i = .int .i64 q ∧ EndI w x p lp m T2 c wr ∧ T2.st ≤ 40 + q ∧ b0 ≤ T2.st ∧ Late b0 T2) (fun i _ => since.length - (intOf i).toNat)
            case atStart => exact ⟨0, T, Nat.zero_le _, Nat.zero_le _, rfl, hE.out, by omega, by omega, hLa.out⟩
            case round =>
              clear hE hLa hcbs hcb2 hTs40
              obtain ⟨q, T2, hq, hq12, rfl, hE, hst, hb0, hLa⟩ := hrel
              have hgo2 : (q < since.length ∧ q < 12) ∨ (q = since.length ∨ (q < since.length ∧ q = 12)) := by omega
              rcases hgo2 with ⟨hqlt, hq2⟩ | hend2
              · obtain ⟨sb, soff, rfl, s0⟩ := hscell.out q hqlt
                have d0 := (hE.keeps.cell (p := ⟨sb, soff + q, none⟩) (cell_lt s0)).trans s0
                have hen := enterOne hE.scan.sect (by omega) since[q]
                have hla2 := hLa.ent hE.scan.sect.ok hb0 since[q]
                have hs2 := T2.ent_st since[q]
                have hs3 := T2.ent_st_le since[q]
                generalize T2.ent since[q] = T3 at *
                generalize T2.entE since[q] = E at *
                generalize since[q] = z at *
                replace hE := Lib.hid hE
                replace hen := Lib.hid hen
                replace hla2 := Lib.hid hla2
                clear hLa s0
                go_wp2_with fail
                refine hen.out.mono ?_
                rintro e w5 ⟨rfl, hS5, hC5⟩
                have hE5 := hE.out.sect hC5 hS5
                replace hE5 := Lib.hid hE5
                clear hE hS5 hC5 hen d0
                go_wp2_with fail
                go_roundw
                case rel => exact ⟨q + 1, T3, by omega, by omega, by go_num, hE5.out, by omega, by omega, hla2.out⟩
                case measure => (simp [intOf]; try omega)
              · replace hE := Lib.hid hE
                replace hLa := Lib.hid hLa
                obtain ⟨wq, rfl⟩ : ∃ wq : World, wq = wr := ⟨_, rfl⟩
                clear hscell
                rcases hend2 with hend2 | ⟨hend2, h12⟩
                all_goals
                  first
                    | subst hend2
                    | subst h12
                  go_wp2_with fail
                  go_loopw [16] (fun i wr => ∃ (j : Nat) (c2 : ScSt), j ≤ 200 ∧ i = .int .i64 j ∧ EndI w x p lp m T2 c2 wr ∧ c2.began = b0 ∧ lenN c2.left = k - j) (fun i _ => k - (intOf i).toNat)
                  case atStart => exact ⟨0, c, by omega, rfl, hE.out, hcbg.out, by rw [hm.out, hL.out]; omega⟩
                  case round =>
                    clear hE
                    obtain ⟨j, c2, hj, rfl, hE, hb2, hlen⟩ := hrel
                    by_cases hjl : j < k
                    · have hpo := poll_any hE.scan (hT.out.keeps hE.keeps) (1 + (N : Int))
                      have hpl := Late.polled (c := c2) (by rw [hb2]; exact hLa.out) hE.scan.sect.ok (1 + N)
                      rw [show ((1 + N : Nat) : Int) = 1 + (N : Int) by omega] at hpl
                      have hpb := poll_began T2 c2 (1 + (N : Int))
                      rw [hpl, hlen] at hpo
                      generalize Proofs.YtpncnddlmlciaaaDoor.poll T2 c2 (1 + (N : Int)) = c3 at *
                      replace hE := Lib.hid hE
                      replace hpo := Lib.hid hpo
                      replace hpl := Lib.hid hpl
                      replace hpb := Lib.hid hpb
                      obtain ⟨P, hP⟩ : ∃ P, P = k - j - (1 + N) := ⟨_, rfl⟩
                      rw [← hP] at hpo
                      go_wp2_with fail
                      refine hpo.out.mono ?_
                      rintro e w5 ⟨rfl, hX5, hC5⟩
                      have hE5 := hE.out.poll hC5 hX5
                      replace hE5 := Lib.hid hE5
                      clear hE hX5 hC5 hpo
                      go_wp2_with fail
                      go_roundw
                      case rel => exact ⟨j + (1 + N), c3, by omega, by go_num, hE5.out, by rw [hpb.out]; exact hb2, by rw [hpl.out]; omega⟩
                      case measure => (simp [intOf]; try omega)
                    · have hl0 : c2.left = 0 := lenN_zero _ hE.scan.ok.word (List.eq_nil_of_length_eq_zero (show lenN c2.left = 0 by omega))
                      replace hE := Lib.hid hE
                      replace hl0 := Lib.hid hl0
                      go_wp2_with fail
                      refine (known10_any _ (hT.out.keeps hE.out.keeps)).mono ?_
                      rintro e w5 ⟨rfl, hK5⟩
                      have hE5 := hE.out.kept hK5
                      have hdo := done_any hE5.scan
                      rw [decide_eq_true hl0.out] at hdo
                      replace hE5 := Lib.hid hE5
                      replace hdo := Lib.hid hdo
                      clear hE hK5
                      go_wp2_with fail
                      refine hdo.out.mono ?_
                      rintro e w6 ⟨rfl, rfl⟩
                      go_wp2_with fail
                      go_ret
                      exact ⟨rfl, hE5.out.keeps⟩
end Go.Proofs.YtpncnddlmlciaaaDoor
