/- The walks of package scan: Poll, Quiet, Left, Done, Began, Place. -/
import Derived.Test.YtefippjakkgjkaaDoorScanA
import Derived.WalkMore
namespace Go.Proofs.YtefippjakkgjkaaDoor
open Go.RowKit

set_option maxHeartbeats 400000 in
theorem left_nil (w : World) : Calls Tryd.prog 60 #[.pointer none] w fun e w' => e = .returned (.int .u64 0) ∧ w = w' := by
  go_enter Tryd.func60, Tryd.ntmps60
  go_wp2
  go_ret
  exact ⟨rfl, rfl⟩
set_option maxHeartbeats 400000 in
theorem left_cell {w : World} {x m : Nat} (c1 : w.cell? ⟨x, 1, none⟩ = some (.int .u64 (m : Int))) : Calls Tryd.prog 60 #[.pointer (some ⟨x, 0, none⟩)] w fun e w' => e = .returned (.int .u64 (m : Int)) ∧ w = w' := by
  go_enter Tryd.func60, Tryd.ntmps60
  go_wp2
  go_ret
  exact ⟨rfl, rfl⟩
theorem left_any {w : World} {x p : Nat} {S : SSt} {c : ScSt} (h : ScanAt w x p S c) : Calls Tryd.prog 60 #[.pointer (some ⟨x, 0, none⟩)] w fun e w' => e = .returned (.int .u64 (c.left : Int)) ∧ w = w' := left_cell h.c1
set_option maxHeartbeats 400000 in
theorem poll_nil (n : Int) (w : World) : Calls Tryd.prog 64 #[.pointer none, .int .i64 n] w fun e w' => e = .returned (.int .i64 0) ∧ w = w' := by
  go_enter Tryd.func64, Tryd.ntmps64
  go_wp2_with fail
  go_step3
  go_wp2_with fail
  rw [Exit.noGoto_ret]
  go_ret
  exact ⟨rfl, rfl⟩

set_option maxRecDepth 100000 in
set_option maxHeartbeats 2000000 in
theorem poll_any {w : World} {x p : Nat} {S : SSt} {c : ScSt} (h : ScanAt w x p S c) (hT : TabAt w) (n : Int) :
    Calls Tryd.prog 64 #[.pointer (some ⟨x, 0, none⟩), .int .i64 n] w fun e w' => e = .returned (.int .i64 (lenN (poll S c n).left : Nat)) ∧ ScanAt w' x p S (poll S c n) ∧ Chg (· = x) w w' := by
  have hlen := fun (W : World) (m : Nat) (hm : m < 18446744073709551616) => len_any m W hm
  have hl64 : lenN c.left ≤ 64 := listN_len _
  have c1 := h.c1
  have hle0 := hlen w c.left h.ok.word
  have hxg : ∀ (W : World), Chg (· = x) w W → TabAt W := fun W hC j hj => by
    have h1 := hT j hj
    by_cases e : 0 = x
    · exfalso
      have h2 := h.hdr.frozen j
      have h3 := cell_lt h1
      have h4 := h.hdr
      rw [show (⟨0, j, none⟩ : Addr) = ⟨x, j, none⟩ by rw [e]] at h1
      have h5 := hT 0 (by decide)
      rw [show (⟨0, 0, none⟩ : Addr) = ⟨x, 0, none⟩ by rw [e], h.c0] at h5
      cases h5
    · exact (World.cell?_of_block (w := w) (a := ⟨0, j, none⟩) (hC.block _ (cell_lt h1) e)).trans h1
  obtain ⟨N, hN⟩ : ∃ N, N = pollN c n := ⟨_, rfl⟩
  have hpoll : poll S c n = psteps S N c := by rw [hN]; rfl
  rw [hpoll]
  have hcase : (n ≤ (lenN c.left : Int) ∧ 0 ≤ n ∧ n = N) ∨ (n ≤ (lenN c.left : Int) ∧ n < 0 ∧ N = 0) ∨ (¬ n ≤ (lenN c.left : Int) ∧ N = lenN c.left) := by
    unfold pollN at hN; omega
  generalize lenN c.left = L at *
  replace hlen := Lib.hid hlen
  replace hxg := Lib.hid hxg
  replace h := Lib.hid h
  replace hle0 := Lib.hid hle0
  clear hpoll hN hT
  have hkey : ∀ nn : Int, (nn = N ∨ (nn < 0 ∧ N = 0)) → ∀ k : Nat, k ≤ N → (((k : Int) < nn ∧ k < N) ∨ (¬ (k : Int) < nn ∧ k = N)) := by intro nn h k hk; omega
  replace hkey := Lib.hid hkey
  obtain ⟨nn, hnn, hmin⟩ : ∃ nn : Int, (nn = N ∨ (nn < 0 ∧ N = 0)) ∧ ((n ≤ (L : Int) ∧ nn = n) ∨ (¬ n ≤ (L : Int) ∧ nn = L)) := by
    rcases hcase with ⟨h1, h2, h3⟩ | ⟨h1, h2, h3⟩ | ⟨h1, h2⟩
    · exact ⟨n, .inl h3, .inl ⟨h1, rfl⟩⟩
    · exact ⟨n, .inr ⟨h2, h3⟩, .inl ⟨h1, rfl⟩⟩
    · exact ⟨L, .inl (by omega), .inr ⟨h1, rfl⟩⟩
  replace hkey := Lib.hid (hkey.out nn hnn)
  have hN64 : N ≤ 64 := by omega
  clear hcase hnn
  rcases hmin with ⟨h1, rfl⟩ | ⟨h1, rfl⟩
  all_goals
    go_enter Tryd.func64, Tryd.ntmps64
    go_wp2_with fail
    go_step3
    go_wp2_with fail
    refine hle0.out.mono ?_
    rintro e w' ⟨rfl, rfl⟩
    go_wp2_with fail
    go_step3
    go_wp2_with fail
    go_loopw [5] (fun i wr => ∃ (k : Nat) (cc : ScSt), k ≤ N ∧ i = .int .i64 k ∧ ScanAt wr x p S cc ∧ Chg (· = x) w wr ∧ Hid (psteps S (N - k) cc = psteps S N c)) (fun i _ => N - (intOf i).toNat)
    case atStart => exact ⟨0, c, Nat.zero_le _, rfl, h.out, Chg.refl _ _, Lib.hid rfl⟩
    case round =>
      clear h hle0 c1 h1
      obtain ⟨k, cc, hk, rfl, hS, hC, hE⟩ := hrel
      have hTr := hxg.out wr hC
      rcases hkey.out k hk with ⟨hlt, hkN⟩ | ⟨hnl, hkN⟩
      · have har : ∀ y : After wr, Calls Tryd.prog 77 #[.int .u64 (cc.left : Nat), .int .i64 (cc.place : Int)] y.now fun e w' => e = .returned (.tuple #[.int .i64 (aroundV cc.left (cc.place : Int) : Nat), .bool (aroundIs cc.left (cc.place : Int))]) ∧ ∃ z : After wr, w' = z.now := fun y => After.call y (around_any cc.left (cc.place : Int) y.now hS.ok.word (hTr.keeps y.keeps))
        have x1 := After.cell hS.c1
        have x3 := After.cell hS.c3
        have hE' := hE.out
        cases hai : aroundIs cc.left (cc.place : Int) with
        | false =>
          rw [psteps_stop S _ cc hai] at hE'
          rw [hai] at har
          have hfin := fun (W : World) (hk : Keeps wr W) => hlen.out W cc.left hS.ok.word
          have hcl := fun (W : World) (hk : Keeps wr W) => (hS.keeps hk).c1
          generalize aroundV cc.left (cc.place : Int) = av at *
          replace har := Lib.hid har
          replace hfin := Lib.hid hfin
          replace hcl := Lib.hid hcl
          replace hS := Lib.hid hS
          replace hC := Lib.hid hC
          replace hE' := Lib.hid hE'
          clear hE hTr hai
          go_wp2_with fail
          refine region_after (by kernel_rfl) (by kernel_rfl) ?_
          repeat go_big_quiet_step (with_reducible exact har.out _)
          refine wpQuiet_nil ?_
          rintro W2 ⟨⟨_, hK2⟩, rfl⟩
          have hfin2 := hfin.out W2 hK2
          have hc2 := hcl.out W2 hK2
          replace hfin2 := Lib.hid hfin2
          replace hK2 := Lib.hid hK2
          clear x1 x3 har
          go_wp2_with fail
          refine hfin2.out.mono ?_
          rintro e w3 ⟨rfl, rfl⟩
          go_wp2_with fail
          rw [Exit.noGoto_ret]
          go_ret
          exact ⟨by rw [← hE'.out]; rfl, by rw [← hE'.out]; exact hS.out.keeps hK2.out, hC.out.trans (Chg.of_keeps hK2.out)⟩
        | true =>
          have hav := aroundV_lt _ _ hai
          have hpst : pstep S cc = { look S cc (aroundV cc.left (cc.place : Int) : Nat) with place := (aroundV cc.left (cc.place : Int) + 1) % 64 } := by unfold pstep; rw [if_pos hai]
          rw [show N - k = (N - (k + 1)) + 1 by omega, psteps, hpst] at hE'
          rw [hai] at har
          clear hpst hai
          generalize aroundV cc.left (cc.place : Int) = av at *
          have hlk := fun (W : World) (hk : Keeps wr W) => look_any (hS.keeps hk) (av : Int)
          have hset := fun (W : World) (h : ScanAt W x p S (look S cc (av : Nat))) => h.setPlace ((av + 1) % 64) (Nat.mod_lt _ (by decide))
          rw [show (((av + 1) % 64 : Nat) : Int) = ((av : Int) + 1) % 64 by omega] at hset
          have hcl : ∀ W : World, ScanAt W x p S (look S cc (av : Nat)) → (∃ u, W.cell? ⟨x, 3, none⟩ = some u) ∧ W.frozen? ⟨x, 3, none⟩ = false := fun W h => ⟨⟨_, h.c3⟩, h.hdr.frozen 3⟩
          generalize lookB S cc (av : Nat) = B at *
          generalize look S cc (av : Nat) = c2 at *
          replace har := Lib.hid har
          replace hlk := Lib.hid hlk
          replace hset := Lib.hid hset
          replace hcl := Lib.hid hcl
          replace hC := Lib.hid hC
          replace hE' := Lib.hid hE'
          clear hE hTr hS
          go_wp2_with fail
          refine region_after (by kernel_rfl) (by kernel_rfl) ?_
          repeat go_big_quiet_step (with_reducible exact har.out _)
          refine wpQuiet_nil ?_
          rintro W2 ⟨⟨_, hK2⟩, rfl⟩
          have hlk2 := hlk.out W2 hK2
          replace hlk2 := Lib.hid hlk2
          replace hK2 := Lib.hid hK2
          clear x1 x3 har
          go_wp2_with fail
          refine hlk2.out.mono ?_
          rintro e w3 ⟨rfl, hS3, hC3⟩
          obtain ⟨⟨u3, hc3⟩, hf3⟩ := hcl.out w3 hS3
          have hset3 := hset.out w3 hS3
          have hC4 := (hC.out.trans (Chg.of_keeps hK2.out)).trans hC3
          replace hset3 := Lib.hid hset3
          replace hC4 := Lib.hid hC4
          clear hS3 hC3 hlk2
          go_wp2_with fail
          go_roundw
          case rel => exact ⟨k + 1, _, by omega, by go_num, hset3.out, Chg.trans (S := (· = x)) hC4.out (Chg.setCell (S := (· = x)) _ _ rfl), hE'⟩
          case measure => (simp [intOf]; try omega)
      · have hE' := hE.out
        rw [hkN, Nat.sub_self] at hE'
        have hfin := hlen.out wr cc.left hS.ok.word
        have hc2 := hS.c1
        replace hfin := Lib.hid hfin
        replace hS := Lib.hid hS
        replace hC := Lib.hid hC
        replace hE' := Lib.hid hE'
        clear hE hTr
        go_wp2_with fail
        refine hfin.out.mono ?_
        rintro e w3 ⟨rfl, rfl⟩
        go_wp2_with fail
        rw [Exit.noGoto_ret]
        go_ret
        exact ⟨by rw [← hE'.out]; rfl, by rw [← hE'.out]; exact hS.out, hC.out⟩
end Go.Proofs.YtefippjakkgjkaaDoor
