/- Add, Del: the walks. -/
import Derived.Test.YtcggbfpangnllaaPendG
import Derived.Deep.DeepCutAuto
namespace Go.Proofs.Ytcggbfpangnllaa
open Go.RowKit Go.Shelf i64
attribute [local go_sem] Oper.semAt_some

set_option maxHeartbeats 400000 in
theorem padd_nil (c : Int) (v : Value) (w : World) : Calls Try.prog 32 #[.pointer none, .int .i64 c, v] w fun e w' => e = .returned (.int .i64 6) ∧ w = w' := by
  go_enter Try.func32, Try.ntmps32
  go_wp2
  go_ret
  exact ⟨rfl, rfl⟩
section
variable {w : World} {p rb cap n : Nat} {pp bb : Nat → Nat} {rest : List Value} {R : List (List Int)}
set_option maxHeartbeats 400000 in
theorem padd_out (h : PendAt w p rb cap n pp bb rest R) (c : Int) (hc : c < 0 ∨ (n : Int) ≤ c) (v : Value) : Calls Try.prog 32 #[.pointer (some ⟨p, 0, none⟩), .int .i64 c, v] w fun e w' => e = .returned (.int .i64 2) ∧ w = w' := by
  have hq := queue_out h c hc
  replace hq := Lib.hid hq
  clear h hc
  go_enter Try.func32, Try.ntmps32
  go_wp2_with fail
  refine hq.out.mono ?_
  rintro e w' ⟨rfl, rfl⟩
  go_wp2_with fail
  go_ret
  exact ⟨rfl, rfl⟩
set_option maxRecDepth 100000 in
set_option maxHeartbeats 2000000 in
theorem padd_any (h : PendAt w p rb cap n pp bb rest R) (hO : OkQ R) (c : Nat) (hc : c < n) (v : Value) (ids : List Int) (hv : Ints w v ids) (hsep : ∀ k, v.ownBlock = some k → 0 < ids.length → ¬ Foot p rb n pp bb k) :
    Calls Try.prog 32 #[.pointer (some ⟨p, 0, none⟩), .int .i64 c, v] w fun e w' => e = .returned (.int .i64 (addR R c ids).2) ∧
      PendAt w' p rb cap n pp bb rest (addR R c ids).1 ∧ OkQ (addR R c ids).1 ∧ Chg (Foot p rb n pp bb) w w' := by
  obtain ⟨q, vcap, rfl, hl, hvc, hcell⟩ := hv.open
  have hz0 : (0 : Int) ≤ ids.length := by omega
  have hq := queue_in h c hc
  replace hq := Lib.hid hq
  replace hcell := Lib.hid hcell
  replace hsep := Lib.hid hsep
  replace h := Lib.hid h
  replace hO := Lib.hid hO
  go_enter Try.func32, Try.ntmps32
  go_wp2_with fail
  refine hq.out.mono ?_
  rintro e w' ⟨rfl, rfl⟩
  go_wp2_with fail
  go_loopw [21] (fun i wr => ∃ (k : Nat) (R' : List (List Int)), k ≤ ids.length ∧ i = .int .i64 k ∧ PendAt wr p rb cap n pp bb rest R' ∧ OkQ R' ∧ addR R c ids = addR R' c (ids.drop k) ∧ Chg (Foot p rb n pp bb) w wr) (fun i _ => ids.length - (intOf i).toNat)
  case atStart => exact ⟨0, R, Nat.zero_le _, rfl, h.out, hO.out, by rw [List.drop_zero], Chg.refl _ _⟩
  case round =>
    clear h hO hq
    obtain ⟨k, R', hk, rfl, hA, hO, hadd, hC⟩ := hrel
    have hkl : k < ids.length ∨ k = ids.length := by omega
    rcases hkl with hlt | rfl
    · obtain ⟨b, off, rfl, hcx⟩ := hcell.out k hlt
      have hcx' := (hC.cell'' (p := ⟨b, off + k, none⟩) (cell_lt hcx) (hsep.out b rfl (by omega))).trans hcx
      have hltI := Int.ofNat_lt.2 hlt
      rw [List.drop_eq_getElem_cons hlt] at hadd
      generalize ids[k] = x at *
      have ht := thing_any x wr
      by_cases hx : 0 ≤ x ∧ x < 256
      · rw [decide_eq_true hx] at ht
        have hw := where_any hA x
        cases hB : whB R' x with
        | true =>
          rw [hB] at hw
          simp only [addR, if_pos hx, hB, if_true] at hadd
          replace hadd := Lib.hid hadd
          replace ht := Lib.hid ht
          replace hw := Lib.hid hw
          replace hA := Lib.hid hA
          replace hO := Lib.hid hO
          replace hC := Lib.hid hC
          clear hx
          generalize whC R' x = z at *
          go_wp2_with fail
          refine ht.out.mono ?_
          rintro e w' ⟨rfl, rfl⟩
          go_wp2_with fail
          refine hw.out.mono ?_
          rintro e w2 ⟨rfl, hK⟩
          replace hK := Lib.hid hK
          go_wp2_with fail
          go_ret
          rw [hadd.out]
          exact ⟨rfl, hA.out.keeps hK.out, hO.out, hC.out.trans (Chg.of_keeps hK.out)⟩
        | false =>
          rw [hB] at hw
          simp only [addR, if_pos hx, hB, Bool.false_eq_true, if_false] at hadd
          have hRl : c < R'.length := by rw [hA.len]; exact hc
          have hno := (whB_false R' x).1 hB
          have hO2 := hO.put1 hRl hx hno
          have hroom := hO.room c x hx (hno c)
          have hq2 := fun w2 (hK : Keeps wr w2) => queue_in (hA.keeps hK) c hc
          obtain ⟨hd, hR⟩ := hA.ring c hc
          have hpush := fun w2 (hK : Keeps wr w2) => push1_any (hR.keeps hK) hroom x w2.heap.size rfl
          have hfin := fun w2 w3 (hK : Keeps wr w2) (hR' : RingAt w3 (pp c) (bb c) 256 hd (R'.getD c [] ++ [x])) (hC' : Chg (fun k => k = pp c ∨ k = bb c) w2 w3) => ((hA.keeps hK).set hc hR' hC')
          replace hadd := Lib.hid hadd
          replace ht := Lib.hid ht
          replace hw := Lib.hid hw
          replace hA := Lib.hid hA
          replace hO2 := Lib.hid hO2
          replace hC := Lib.hid hC
          replace hq2 := Lib.hid hq2
          replace hpush := Lib.hid hpush
          replace hfin := Lib.hid hfin
          clear hx hno hRl hR hroom hO
          generalize whC R' x = z at *
          go_wp2_with fail
          refine ht.out.mono ?_
          rintro e w' ⟨rfl, rfl⟩
          go_wp2_with fail
          refine hw.out.mono ?_
          rintro e w2 ⟨rfl, hK⟩
          replace hK := Lib.hid hK
          go_wp2_with fail
          refine (hq2.out w2 hK.out).mono ?_
          rintro e w3 ⟨rfl, rfl⟩
          go_wp2_with fail
          refine (hpush.out w2 hK.out).mono ?_
          rintro e w3 ⟨rfl, hR3, hM⟩
          have hA3 := hfin.out w2 w3 hK.out hR3 hM.toChg
          have hC3 := (hC.out.trans (Chg.of_keeps hK.out)).trans (Chg.toFoot (p := p) (rb := rb) hc hM.toChg)
          replace hA3 := Lib.hid hA3
          replace hC3 := Lib.hid hC3
          clear hR3 hM
          go_wp2_with fail
          go_roundw
          case rel => exact ⟨k + 1, put1 R' c x, by omega, by go_num, hA3.out, hO2.out, hadd.out, hC3.out⟩
          case measure => (simp [intOf]; try omega)
      · rw [decide_eq_false hx] at ht
        simp only [addR, if_neg hx] at hadd
        replace hadd := Lib.hid hadd
        replace ht := Lib.hid ht
        replace hA := Lib.hid hA
        replace hO := Lib.hid hO
        replace hC := Lib.hid hC
        clear hx
        go_wp2_with fail
        refine ht.out.mono ?_
        rintro e w' ⟨rfl, rfl⟩
        go_wp2_with fail
        go_ret
        rw [hadd.out]
        exact ⟨rfl, hA.out, hO.out, hC.out⟩
    · rw [List.drop_length] at hadd
      simp only [addR] at hadd
      replace hadd := Lib.hid hadd
      replace hA := Lib.hid hA
      replace hO := Lib.hid hO
      replace hC := Lib.hid hC
      clear hsep hcell
      go_wp2_with fail
      go_ret
      rw [hadd.out]
      exact ⟨rfl, hA.out, hO.out, hC.out⟩
set_option maxRecDepth 100000 in
set_option maxHeartbeats 2000000 in
theorem pdel_nil (v : Value) (ids : List Int) (hv : Ints w v ids) : Calls Try.prog 39 #[.pointer none, v] w fun e w' => e = .returned (.int .i64 0) ∧ Keeps w w' := by
  obtain ⟨q, vcap, rfl, hl, hvc, hcell⟩ := hv.open
  have hz0 : (0 : Int) ≤ ids.length := by omega
  replace hcell := Lib.hid hcell
  go_enter Try.func39, Try.ntmps39
  go_wp2_with fail
  go_loopw [5, 13] (fun t i wr => ∃ (k : Nat), k ≤ ids.length ∧ i = .int .i64 k ∧ t = .int .i64 0 ∧ Keeps w wr) (fun _ i _ => ids.length - (intOf i).toNat)
  case atStart => exact ⟨0, Nat.zero_le _, rfl, rfl, Keeps.refl _⟩
  case round =>
    obtain ⟨k, hk, rfl, rfl, hK⟩ := hrel
    have hkl : k < ids.length ∨ k = ids.length := by omega
    rcases hkl with hlt | rfl
    · obtain ⟨b, off, rfl, hcx⟩ := hcell.out k hlt
      have hcx' := (World.cell?_of_block (a := ⟨b, off + k, none⟩) (hK.block b (cell_lt hcx))).trans hcx
      have hltI := Int.ofNat_lt.2 hlt
      have hf := find_nil 63 #[.pointer (some ⟨wr.heap.size, 0, none⟩)] (wr.alloc (.cells #[.int .i64 ids[k]] 3))
      have hK0 : Keeps w (wr.alloc (.cells #[.int .i64 ids[k]] 3)) := hK.trans (Keeps.alloc _ _)
      generalize ids[k] = x at *
      replace hf := Lib.hid hf
      replace hK0 := Lib.hid hK0
      clear hcx
      go_wp2_with fail
      refine hf.out.mono ?_
      rintro e w2 ⟨rfl, hK2⟩
      replace hK2 := Lib.hid hK2
      go_wp2_with fail
      go_roundw
      case rel => exact ⟨k + 1, by omega, by go_num, rfl, hK0.out.trans hK2.out⟩
      case measure => (simp [intOf]; try omega)
    · go_wp2_with fail
      go_ret
      exact ⟨rfl, hK⟩
set_option maxRecDepth 100000 in
set_option maxHeartbeats 2000000 in
theorem pdel_any (h : PendAt w p rb cap n pp bb rest R) (hO : OkQ R) (v : Value) (ids : List Int) (hv : Ints w v ids) (hsep : ∀ k, v.ownBlock = some k → 0 < ids.length → ¬ Foot p rb n pp bb k) :
    Calls Try.prog 39 #[.pointer (some ⟨p, 0, none⟩), v] w fun e w' => e = .returned (.int .i64 (delN R ids : Nat)) ∧
      PendAt w' p rb cap n pp bb rest (delR R ids) ∧ Chg (Foot p rb n pp bb) w w' := by
  obtain ⟨q, vcap, rfl, hl, hvc, hcell⟩ := hv.open
  have hz0 : (0 : Int) ≤ ids.length := by omega
  have hDok := fun k => hO.delR (ids.take k)
  replace hcell := Lib.hid hcell
  replace hsep := Lib.hid hsep
  replace h := Lib.hid h
  replace hO := Lib.hid hO
  replace hDok := Lib.hid hDok
  go_enter Try.func39, Try.ntmps39
  go_wp2_with fail
  go_loopw [5, 13] (fun t i wr => ∃ (k : Nat), k ≤ ids.length ∧ i = .int .i64 k ∧ t = .int .i64 (delN R (ids.take k) : Nat) ∧ PendAt wr p rb cap n pp bb rest (delR R (ids.take k)) ∧ Chg (Foot p rb n pp bb) w wr) (fun _ i _ => ids.length - (intOf i).toNat)
  case atStart => exact ⟨0, Nat.zero_le _, rfl, rfl, h.out, Chg.refl _ _⟩
  case round =>
    clear h hO
    obtain ⟨k, hk, rfl, rfl, hA, hC⟩ := hrel
    have hkl : k < ids.length ∨ k = ids.length := by omega
    rcases hkl with hlt | rfl
    · obtain ⟨b, off, rfl, hcx⟩ := hcell.out k hlt
      have hcx' := (hC.cell'' (p := ⟨b, off + k, none⟩) (cell_lt hcx) (hsep.out b rfl (by omega))).trans hcx
      have hltI := Int.ofNat_lt.2 hlt
      have hOk := hDok.out k
      have hnle := delN_le R (ids.take k)
      rw [List.length_take, Nat.min_eq_left (by omega)] at hnle
      have htk : ids.take (k + 1) = ids.take k ++ [ids[k]] := List.take_succ_eq_append_getElem hlt
      have hsR := delR_snoc R (ids.take k) ids[k]
      have hsN := delN_snoc R (ids.take k) ids[k]
      rw [← htk] at hsR hsN
      have hK0 : Keeps wr (wr.alloc (.cells #[.int .i64 ids[k]] 3)) := Keeps.alloc _ _
      have hbx := Boxed.new wr 3 (.int .i64 ids[k])
      generalize ids[k] = x at *
      generalize delN R (ids.take k) = N at *
      generalize delR R (ids.take k) = R' at *
      have hf := find_any (hA.keeps hK0) (· == x) 63 #[.pointer (some ⟨wr.heap.size, 0, none⟩)] (enters_of Try.func63 (by kernel_rfl) rfl) (fun y W hW => eqId2_any _ x y W (Blk.keeps (cs := [_]) hbx hW))
      cases hB : whB R' x with
      | true =>
        obtain ⟨i, a, hi, ha, hxa, hCi, hAa⟩ := wh_at R' x hB
        rw [show findC R' (· == x) = (i : Int) from hCi, show findA R' (· == x) = (a : Int) from hAa, show findB R' (· == x) = true from hB] at hf
        have hin : i < n := by rw [← hA.len]; exact hi
        rw [if_pos hB] at hsN
        have hd1 := del1_hit hOk hi ha hxa
        rw [← hsR] at hd1
        have hq2 := fun w2 (hK : Keeps wr w2) => queue_in (hA.keeps hK) i hin
        obtain ⟨hd, hR⟩ := hA.ring i hin
        have htake := fun w2 (hK : Keeps wr w2) => take_yes a (hR.keeps hK) ha
        have hfin := fun w2 w3 hd (hK : Keeps wr w2) (hR' : RingAt w3 (pp i) (bb i) 256 hd ((R'.getD i []).take a ++ (R'.getD i []).drop (a + 1))) (hC' : Chg (fun k => k = pp i ∨ k = bb i) w2 w3) => ((hA.keeps hK).set hin hR' hC')
        rw [hd1] at hfin
        rw [hxa] at htake
        have hcapI : (N : Int) + 1 ≤ 9223372036854775807 := by omega
        have hN0 : (0 : Int) ≤ (N : Int) := by omega
        replace hf := Lib.hid hf
        replace hK0 := Lib.hid hK0
        replace hsN := Lib.hid hsN
        replace hq2 := Lib.hid hq2
        replace htake := Lib.hid htake
        replace hfin := Lib.hid hfin
        replace hC := Lib.hid hC
        clear hA hR hcx hsR hd1 hbx hOk htk hxa ha hi hCi hAa
        go_wp2_with fail
        refine hf.out.mono ?_
        rintro e w2 ⟨rfl, hK⟩
        have hK2 := hK0.out.trans hK
        replace hK2 := Lib.hid hK2
        clear hK
        go_wp2_with fail
        refine (hq2.out w2 hK2.out).mono ?_
        rintro e w3 ⟨rfl, rfl⟩
        go_wp2_with fail
        refine (htake.out w2 hK2.out).mono ?_
        rintro e w3 ⟨rfl, hR3, hM⟩
        have hA3 := hfin.out w2 w3 _ hK2.out hR3 hM.toChg
        have hC3 := (hC.out.trans (Chg.of_keeps hK2.out)).trans (Chg.toFoot (p := p) (rb := rb) hin hM.toChg)
        replace hA3 := Lib.hid hA3
        replace hC3 := Lib.hid hC3
        clear hR3 hM
        go_wp2_with fail
        go_roundw
        case rel => exact ⟨k + 1, by omega, by go_num, by rw [hsN.out, Int.natCast_add]; rfl, hA3.out, hC3.out⟩
        case measure => (simp [intOf]; try omega)
      | false =>
        rw [show findB R' (· == x) = false from hB] at hf
        rw [if_neg (by rw [hB]; exact Bool.false_ne_true)] at hsN
        rw [del1_same hB] at hsR
        replace hf := Lib.hid hf
        replace hK0 := Lib.hid hK0
        replace hsN := Lib.hid hsN
        replace hsR := Lib.hid hsR
        replace hC := Lib.hid hC
        replace hA := Lib.hid hA
        clear hcx hbx hOk htk
        generalize findC R' (· == x) = z1 at *
        generalize findA R' (· == x) = z2 at *
        go_wp2_with fail
        refine hf.out.mono ?_
        rintro e w2 ⟨rfl, hK⟩
        have hK2 := hK0.out.trans hK
        replace hK2 := Lib.hid hK2
        clear hK
        go_wp2_with fail
        go_roundw
        case rel => exact ⟨k + 1, by omega, by go_num, by rw [hsN.out]; rfl, by rw [hsR.out]; exact hA.out.keeps hK2.out, hC.out.trans (Chg.of_keeps hK2.out)⟩
        case measure => (simp [intOf]; try omega)
    · rw [List.take_of_length_le (Nat.le_refl _)] at hA ⊢
      replace hA := Lib.hid hA
      replace hC := Lib.hid hC
      clear hsep hcell hDok
      go_wp2_with fail
      go_ret
      exact ⟨rfl, hA.out, hC.out⟩
end
end Go.Proofs.Ytcggbfpangnllaa
