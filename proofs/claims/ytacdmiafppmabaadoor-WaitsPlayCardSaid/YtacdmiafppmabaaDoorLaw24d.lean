/- WaitsEnd: the walk. -/
import Derived.Test.YtacdmiafppmabaaDoorLaw24c
import Derived.Deep.DeepCutAuto
import Derived.Deep.CutBlock
namespace Go.Proofs.YtacdmiafppmabaaDoor
open Go.RowKit

/-- A call. -/
def aEl24 (a : Int × Int × Int) : List Value := [.int .i64 a.1, .int .i64 a.2.1, .int .i64 a.2.2]
theorem act_cells {w wr : World} {q : Option Addr} {m cap : Nat} {acts : List (Int × Int × Int)} (hv : SlcS 3 w (.slice q m cap) (acts.map aEl24)) (hk : Keeps w wr) (k : Nat) (hlt : k < acts.length) :
    ∃ b off, q = some ⟨b, off, none⟩ ∧ wr.cell? ⟨b, off + k * 3, none⟩ = some (.int .i64 acts[k].1) ∧ wr.cell? ⟨b, off + k * 3 + 1, none⟩ = some (.int .i64 acts[k].2.1) ∧ wr.cell? ⟨b, off + k * 3 + 2, none⟩ = some (.int .i64 acts[k].2.2) := by
  obtain ⟨q', c', hv', _, _, hcell⟩ := SlcS.get (SlcS.below hv hk)
  obtain ⟨ab, aoff, hq', hcell⟩ := hcell k (by rw [List.length_map]; exact hlt)
  simp only [Value.slice.injEq] at hv'
  have e0 : (acts.map aEl24).getD k [] = aEl24 acts[k] := by simp [List.getD, hlt]
  rw [e0] at hcell
  exact ⟨ab, aoff, hv'.1.trans hq', hcell 0 (by decide), hcell 1 (by decide), hcell 2 (by decide)⟩
set_option maxRecDepth 100000 in
set_option maxHeartbeats 4000000 in
theorem lawEnd24_any (v : Value) (acts : List (Int × Int × Int)) (w : World) (hv : SlcS 3 w v (acts.map aEl24)) (hT : TabAt w) : Calls Tryd.prog 3 #[v] w fun e w' => e = .returned (.bool true) ∧ Keeps w w' := by
  have hkn := fun (W : World) (hk : Keeps w W) => known24_any W (hT.keeps hk)
  obtain ⟨q, cap, rfl, hl, hc, _⟩ := SlcS.get hv
  rw [List.length_map] at hl ⊢
  have haI : (0 : Int) ≤ (acts.length : Int) := by omega
  obtain ⟨P, hP⟩ : ∃ P, P = w.heap.size := ⟨_, rfl⟩
  have hI := WI.start w
  rw [← hP] at hI
  replace hI := Lib.hid hI
  replace hP := Lib.hid hP
  replace hkn := Lib.hid hkn
  replace hv := Lib.hid hv
  go_enter Tryd.func3, Tryd.ntmps3
  go_upto_region 2 with (fail)
  rw [← hP.out]
  refine wp_gen (fun W => WI w P none 0 wnone W) hI.out ?_
  clear hI
  rintro W hI
  replace hI := Lib.hid hI
  go_wp2_with fail
  go_loopw [4] (fun iv wr => ∃ (k : Nat) (bo : Option Nat) (f : WS), k ≤ acts.length ∧ k ≤ 60 ∧ iv = .int .i64 (k : Int) ∧ WI w P bo k f wr) (fun iv _ => acts.length - (intOf iv).toNat)
  case atStart => exact ⟨0, none, _, Nat.zero_le _, by omega, rfl, hI.out⟩
  case round =>
    clear hI
    obtain ⟨k, bo, f, hk, hk60, rfl, hI⟩ := hrel
    obtain ⟨wo, hwo⟩ : ∃ wo : World, wo = wr := ⟨_, rfl⟩
    rw [← hwo] at hI ⊢
    clear hwo
    by_cases hgo : k < acts.length ∧ k < 60
    · obtain ⟨hlt, h60⟩ := hgo
      have hltI := Int.ofNat_lt.2 hlt
      have h60I : (k : Int) < 60 := by omega
      have hk0 : (0 : Int) ≤ (k : Int) := by omega
      obtain ⟨ab, aoff, rfl, y0, y1, y2⟩ := act_cells hv.out hI.keeps k hlt
      generalize acts[k] = a at *
      obtain ⟨ki, av, bv⟩ := a
      simp only at y0 y1 y2
      obtain ⟨a, ha, ea⟩ := wrap_mod av 32 (by decide)
      obtain ⟨b, hb, eb⟩ := wrap_mod bv 32 (by decide)
      have ha32 : a < 32 := by omega
      have hb32 : b < 32 := by omega
      replace hI := Lib.hid hI
      go_wp2_with fail
      go_quiet (fail)
      rename_i nq
      have hIq := hI.out.kept (Keeps.drewN wo nq)
      replace hIq := Lib.hid hIq
      clear hI
      go_upto_region 6 with (fail)
      have y0' := ((Keeps.drewN wo nq).cell (p := ⟨ab, aoff + k * 3, none⟩) (cell_lt y0)).trans y0
      refine wp_gen (fun W => WI w P bo k f W ∧ W.cell? ⟨ab, aoff + k * 3, none⟩ = some (.int .i64 ki)) ⟨hIq.out, y0'⟩ ?_
      clear hIq y0 y1 y2 y0'
      rintro W ⟨hI, y0⟩
      cases h3 : (bits BinOp.and IntKind.i64 ki 3 == 3) with
      | true =>
        have hk1 := Keeps.alloc W (.cells #[.int .i64 (b : Int)] 3)
        have h5 := (hI.kept hk1).wake hT _ _ (ints_one W (b : Int))
        replace h5 := Lib.hid h5
        clear hI hk1
        go_wp2_with fail
        refine h5.out.mono ?_
        rintro e W5 ⟨v, rfl, hv5, _, hI5, _⟩
        obtain ⟨vq', vc', hvv, _⟩ := hv5.open
        subst hvv
        have hI6 := hI5.mono (Nat.le_succ k)
        replace hI6 := Lib.hid hI6
        clear hv5 hI5 h5
        go_wp2_with fail
        go_roundw
        case rel => exact ⟨k + 1, bo, _, by omega, by omega, by go_num, hI6.out⟩
        case measure => (simp [intOf]; try omega)
      | false =>
        have h1 := hI.chain (b : Int) ⟨by omega, by omega⟩
        replace h1 := Lib.hid h1
        replace hI := Lib.hid hI
        go_wp2_with fail
        refine h1.out.mono ?_
        rintro e W1 ⟨v, rfl, hv1, _, hk1⟩
        have hI1 := hI.out.kept hk1
        have hll := chainI_len hI1.ok (b : Int)
        obtain ⟨vq, vc, hvv, _⟩ := hv1.open
        rw [castW_len] at hvv
        subst hvv
        obtain ⟨L, hL⟩ : ∃ L, L = chainI f (b : Int) := ⟨_, rfl⟩
        rw [← hL] at hv1 hll ⊢
        have hLI : (0 : Int) ≤ (L.length : Int) := by omega
        replace hI1 := Lib.hid hI1
        replace hv1 := Lib.hid hv1
        replace hL := Lib.hid hL
        clear h1 hI hk1 y0 h3
        go_wp2_with fail
        go_loopw [8, 9] (fun dv iv wr => ∃ j : Nat, j ≤ L.length ∧ iv = .int .i64 (j : Int) ∧ dv = .bool ((a : Int) == (b : Int) || ((castW L).take j).contains (a : Int)) ∧ Keeps W1 wr) (fun _ iv _ => L.length - (intOf iv).toNat)
        case atStart => exact ⟨0, Nat.zero_le _, rfl, by simp, Keeps.refl _⟩
        case round =>
          obtain ⟨j, hj, rfl, rfl, hK⟩ := hrel
          obtain ⟨wp, hwp⟩ : ∃ wp : World, wp = wr := ⟨_, rfl⟩
          rw [← hwp] at hK ⊢
          clear hwp
          by_cases hltj : j < L.length
          · have hltjI := Int.ofNat_lt.2 hltj
            have hj0 : (0 : Int) ≤ (j : Int) := by omega
            have hIr : Ints wp (.slice vq L.length vc) (castW L) := Slc.below hv1.out hK
            obtain ⟨vq', vc', hv', _, _, hcell⟩ := hIr.open
            obtain ⟨vb, voff, hq', c0⟩ := hcell j (by rw [castW_len]; exact hltj)
            simp only [Value.slice.injEq] at hv'
            obtain rfl : vq = some ⟨vb, voff, none⟩ := hv'.1.trans hq'
            have hnext : ((castW L).take (j + 1)).contains (a : Int) = (((castW L).take j).contains (a : Int) || ((castW L)[j]'(by rw [castW_len]; exact hltj) == (a : Int))) := by
              rw [List.take_succ_eq_append_getElem (by rw [castW_len]; exact hltj), List.contains_append]
              congr 1
              simp only [List.contains_cons, List.contains_nil, Bool.or_false]
              rw [Bool.eq_iff_iff]; simp only [beq_iff_eq]; exact ⟨Eq.symm, Eq.symm⟩
            generalize (castW L)[j]'(by rw [castW_len]; exact hltj) = z at *
            obtain ⟨D, hDD⟩ : ∃ D, D = ((a : Int) == (b : Int) || ((castW L).take j).contains (a : Int)) := ⟨_, rfl⟩
            rw [← hDD]
            have hnext2 : ((a : Int) == (b : Int) || ((castW L).take (j + 1)).contains (a : Int)) = (D || (z == (a : Int))) := by rw [hnext, hDD, Bool.or_assoc]
            replace hnext2 := Lib.hid hnext2
            replace hDD := Lib.hid hDD
            clear hcell hv' hq' hnext hIr
            cases D with
            | true =>
              go_wp2_with fail
              go_roundw
              case rel => exact ⟨j + 1, by omega, by go_num, by rw [hnext2.out, Bool.true_or], hK⟩
              case measure => (simp [intOf]; try omega)
            | false =>
              go_wp2_with fail
              go_roundw
              case rel => exact ⟨j + 1, by omega, by go_num, by rw [hnext2.out, Bool.false_or], hK⟩
              case measure => (simp [intOf]; try omega)
          · obtain rfl : j = L.length := by omega
            have hI2 := hI1.out.kept hK
            have hfo := for_any hI2.at' (a : Int) ⟨by omega, by omega⟩
            have hwt := hI2.wait (a : Int) (b : Int) (by unfold maxLen; omega)
            have hD : ((a : Int) == (b : Int) || ((castW L).take L.length).contains (a : Int)) = decide (a = b ∨ a ∈ chainW f b) := by
              rw [List.take_of_length_le (by rw [castW_len]; exact Nat.le_refl _), hL.out, chain_has, Bool.eq_iff_iff]
              simp only [Bool.or_eq_true, beq_iff_eq, decide_eq_true_eq]
              exact ⟨fun h => h.imp (fun h => by omega) id, fun h => h.imp (fun h => by omega) id⟩
            rw [hD]
            have hcode : (whomB f (a : Int) = true ∧ waitC f a b = 5) ∨ (whomB f (a : Int) = false ∧ decide (a = b ∨ a ∈ chainW f b) = true ∧ waitC f a b = 19) ∨ (whomB f (a : Int) = false ∧ decide (a = b ∨ a ∈ chainW f b) = false ∧ waitC f a b = 0) := by
              unfold waitC
              rw [inC_nat ha32, inC_nat hb32, if_neg (by decide), Int.toNat_natCast, Int.toNat_natCast]
              cases hw : whomB f (a : Int) with
              | true => exact .inl ⟨rfl, if_pos rfl⟩
              | false =>
                by_cases hd : a = b ∨ a ∈ chainW f b
                · exact .inr (.inl ⟨rfl, decide_eq_true hd, by rw [if_neg (by decide), if_pos (hd.imp (fun e => by rw [e]) id)]⟩)
                · exact .inr (.inr ⟨rfl, decide_eq_false hd, by rw [if_neg (by decide), if_neg (fun h => hd (h.imp (fun e => by omega) id))]⟩)
            obtain ⟨D, hDD⟩ : ∃ D, D = decide (a = b ∨ a ∈ chainW f b) := ⟨_, rfl⟩
            rw [← hDD] at hcode ⊢
            generalize whomV f (a : Int) = V at *
            generalize whomB f (a : Int) = T at *
            generalize waitC f a b = C at *
            generalize waitF f a b = F at *
            replace hfo := Lib.hid hfo
            replace hwt := Lib.hid hwt
            replace hDD := Lib.hid hDD
            clear hI2 hD hK hI1 hv1
            go_wp2_with fail
            refine hfo.out.mono ?_
            rintro e w' ⟨rfl, rfl⟩
            go_wp2_with fail
            refine hwt.out.mono ?_
            rintro e W4 ⟨rfl, bo4, hI4⟩
            replace hI4 := Lib.hid hI4
            clear hfo hwt
            go_upto_region 16 with (fail)
            go_cut [107] (fun x wx => x = .bool false ∧ wx = W4)
            case first =>
              rcases hcode with ⟨rfl, rfl⟩ | ⟨rfl, rfl, rfl⟩ | ⟨rfl, rfl, rfl⟩
              · cases D with
                | true => go_wp2_with fail; go_meet; exact ⟨rfl, rfl⟩
                | false => go_wp2_with fail; go_meet; exact ⟨rfl, rfl⟩
              · go_wp2_with fail
                go_meet
                exact ⟨rfl, rfl⟩
              · go_wp2_with fail
                go_meet
                exact ⟨rfl, rfl⟩
            case rest =>
              obtain ⟨rfl, hw⟩ := hcut
              subst hw
              clear hcode hDD
              go_wp2_with fail
              go_loopw [13] (fun cv wr => ∃ c : Nat, c ≤ 32 ∧ cv = .int .i64 (c : Int) ∧ WI w P bo4 (k + 1) F wr) (fun cv _ => 32 - (intOf cv).toNat)
              case atStart => exact ⟨0, by omega, rfl, hI4.out⟩
              case round =>
                clear hI4
                obtain ⟨c, hc, rfl, hI5⟩ := hrel
                obtain ⟨W5, hW5⟩ : ∃ W5 : World, W5 = wr := ⟨_, rfl⟩
                rw [← hW5] at hI5 ⊢
                clear hW5
                by_cases hc32 : c < 32
                · have hc32I : (c : Int) < 32 := by omega
                  have h6 := hI5.chain (c : Int) ⟨by omega, by omega⟩
                  have hcl := chainI_len hI5.ok (c : Int)
                  have hself := chain_self hI5.ok c
                  have hlast := chain_last hI5.ok c
                  rw [← chainI_nat] at hself
                  have hlast2 : ∀ x, (chainI F (c : Int)).getLast? = some x → F x = none := fun x hx => hlast x (by rwa [chainI_nat] at hx)
                  replace h6 := Lib.hid h6
                  replace hI5 := Lib.hid hI5
                  obtain ⟨X, hX⟩ : ∃ X, X = chainI F (c : Int) := ⟨_, rfl⟩
                  rw [← hX] at h6 hcl hself hlast2
                  have hxlt : ∀ x ∈ X, x < 32 := fun x hx => by rw [hX, chainI_nat] at hx; exact chainN_lt hI5.out.ok 32 c x hx
                  have hXI : (0 : Int) ≤ (X.length : Int) := by omega
                  replace hself := Lib.hid hself
                  replace hlast2 := Lib.hid hlast2
                  replace hxlt := Lib.hid hxlt
                  clear hlast hX
                  go_wp2_with fail
                  refine h6.out.mono ?_
                  rintro e W6 ⟨v6, rfl, hv6, _, hk6⟩
                  have hI6 := hI5.out.kept hk6
                  obtain ⟨xq, xc, hxv, _⟩ := hv6.open
                  rw [castW_len] at hxv
                  subst hxv
                  replace hI6 := Lib.hid hI6
                  replace hv6 := Lib.hid hv6
                  clear h6 hI5 hk6
                  go_wp2_with fail
                  go_loopw [15] (fun jv wr => ∃ j : Nat, j ≤ X.length ∧ jv = .int .i64 (j : Int) ∧ Keeps W6 wr) (fun jv _ => X.length - (intOf jv).toNat)
                  case atStart => exact ⟨0, Nat.zero_le _, rfl, Keeps.refl _⟩
                  case round =>
                    obtain ⟨j, hj, rfl, hK⟩ := hrel
                    obtain ⟨W7, hW7⟩ : ∃ W7 : World, W7 = wr := ⟨_, rfl⟩
                    rw [← hW7] at hK ⊢
                    clear hW7
                    have hvr : Ints W7 (.slice xq X.length xc) (castW X) := Slc.below hv6.out hK
                    obtain ⟨xq', xc', hv', _, _, hcell⟩ := hvr.open
                    simp only [Value.slice.injEq] at hv'
                    obtain ⟨rfl, hxx, rfl⟩ := hv'
                    clear hxx
                    by_cases hjx : j < X.length
                    · have hjxI := Int.ofNat_lt.2 hjx
                      have hj0 : (0 : Int) ≤ (j : Int) := by omega
                      obtain ⟨xb, xoff, rfl, c0⟩ := hcell j (by rw [castW_len]; exact hjx)
                      have hgj : (castW X)[j]'(by rw [castW_len]; exact hjx) = ((X[j] : Nat) : Int) := by simp [castW]
                      rw [hgj] at c0
                      have hne : (((X[j] : Nat) : Int) == (c : Int)) = false := by
                        rw [beq_eq_false_iff_ne]
                        intro e
                        have e2 : X[j] = c := by omega
                        exact hself.out (e2 ▸ List.getElem_mem hjx)
                      clear hcell hgj
                      generalize X[j] = x at *
                      replace hvr := Lib.hid hvr
                      go_wp2_with fail
                      go_roundw
                      case rel => exact ⟨j + 1, by omega, by go_num, hK⟩
                      case measure => (simp [intOf]; try omega)
                    · obtain rfl : j = X.length := by omega
                      have hI7 := hI6.out.kept hK
                      by_cases hx0 : 0 < X.length
                      · have hx0I : (0 : Int) < (X.length : Int) := by omega
                        obtain ⟨xb, xoff, rfl, c0⟩ := hcell (X.length - 1) (by rw [castW_len]; omega)
                        have hgj : (castW X)[X.length - 1]'(by rw [castW_len]; omega) = ((X[X.length - 1] : Nat) : Int) := by simp [castW]
                        rw [hgj] at c0
                        have hend : F X[X.length - 1] = none := hlast2.out _ (by rw [List.getLast?_eq_getElem?, List.getElem?_eq_getElem (by omega)])
                        have hxl := hxlt.out X[X.length - 1] (List.getElem_mem _)
                        obtain ⟨m, hm⟩ : ∃ m, X.length = m + 1 := ⟨X.length - 1, by omega⟩
                        have hf8 := for_any hI7.at' ((X[X.length - 1] : Nat) : Int) ⟨by omega, by omega⟩
                        rw [(whom_none hend).1, (whom_none hend).2] at hf8
                        generalize X[X.length - 1] = x at *
                        have hml : (m : Int) < (X.length : Int) := by omega
                        have hm0 : (0 : Int) ≤ (m : Int) := by omega
                        replace hf8 := Lib.hid hf8
                        replace hI7 := Lib.hid hI7
                        replace hend := Lib.hid hend
                        replace hm := Lib.hid hm
                        clear hcell hvr hgj
                        go_wp2_with fail
                        refine hf8.out.mono ?_
                        rintro e w' ⟨rfl, rfl⟩
                        go_wp2_with fail
                        go_roundw
                        case rel => exact ⟨c + 1, by omega, by go_num, hI7.out⟩
                        case measure => (simp [intOf]; try omega)
                      · have hx0I : ¬ (0 : Int) < (X.length : Int) := by omega
                        replace hI7 := Lib.hid hI7
                        clear hcell hvr
                        go_wp2_with fail
                        go_roundw
                        case rel => exact ⟨c + 1, by omega, by go_num, hI7.out⟩
                        case measure => (simp [intOf]; try omega)
                · obtain rfl : c = 32 := by omega
                  replace hI5 := Lib.hid hI5
                  go_wp2_with fail
                  go_roundw
                  case rel => exact ⟨k + 1, bo4, F, by omega, by omega, by go_num, hI5.out⟩
                  case measure => (simp [intOf]; try omega)
    · have hk4 := hkn.out wo hI.keeps
      have hend : (k : Int) = (acts.length : Int) ∨ (k : Int) = 60 := by omega
      replace hI := Lib.hid hI
      replace hk4 := Lib.hid hk4
      rcases hend with h1 | h1
      · have hx : ¬ (k : Int) < (acts.length : Int) := by omega
        replace h1 := Lib.hid h1
        go_wp2_with fail
        refine hk4.out.mono ?_
        rintro e w2 ⟨rfl, hK2⟩
        replace hK2 := Lib.hid hK2
        go_wp2_with fail
        go_ret
        exact ⟨rfl, Keeps.trans hI.out.keeps hK2.out⟩
      · have hx : ¬ (k : Int) < 60 := by omega
        replace h1 := Lib.hid h1
        by_cases hy : (k : Int) < (acts.length : Int)
        all_goals
          go_wp2_with fail
          refine hk4.out.mono ?_
          rintro e w2 ⟨rfl, hK2⟩
          replace hK2 := Lib.hid hK2
          go_wp2_with fail
          go_ret
          exact ⟨rfl, Keeps.trans hI.out.keeps hK2.out⟩
end Go.Proofs.YtacdmiafppmabaaDoor
