/- The walk of Log.Put. -/
import Derived.Test.YtedfkonpkmckbaaDoorLogA
import Derived.Deep.DeepCutAuto
import Derived.Deep.CutBlock
namespace Go.Proofs.YtedfkonpkmckbaaDoor
open Go.RowKit

/-- What Put may write: the log, and its row. -/
def LW (l : Nat) (v : Value) (b : Nat) : Prop := b = l ∨ v.ownBlock = some b
/-- A row is the old one, or a new one. -/
def OldNew (n : Nat) (v v' : Value) : Prop := v'.ownBlock = v.ownBlock ∨ ∀ b, v'.ownBlock = some b → n ≤ b
theorem OldNew.step {n N : Nat} {v v2 v3 : Value} (h : OldNew n v v2) (hn : n ≤ N) (h3 : v3.ownBlock = v2.ownBlock ∨ v3.ownBlock = some N) : OldNew n v v3 := by
  rcases h3 with h3 | h3
  · unfold OldNew at h ⊢; rw [h3]; exact h
  · exact .inr fun b hb => by rw [h3] at hb; injection hb with hb; omega
set_option maxRecDepth 100000 in
set_option maxHeartbeats 4000000 in
theorem lput_any {w : World} {m l : Nat} {evs : List EvS} {lost : Int} {v xv : Value} {xs : List EvS} (h : LogAt w m l evs lost v) (hx : SlcS 5 w xv (xs.map evC)) (hs : ∀ b, xv.ownBlock = some b → ¬ LW l v b) (h4 : evs.length ≤ 4096) (hl0 : 0 ≤ lost) (hl1 : lost + xs.length ≤ 1000000) :
    Calls Tryd.prog 14 #[.pointer (some ⟨l, 0, none⟩), xv] w fun e w' => e = .returned (.int .i64 (((putS (evs, lost) xs).1.length : Int) - (evs.length : Int))) ∧ ∃ v', LogAt w' m l (putS (evs, lost) xs).1 (putS (evs, lost) xs).2 v' ∧ OldNew w.heap.size v v' ∧ Chg (LW l v) w w' := by
  obtain ⟨q, cap, rfl, hxl, hxc, _⟩ := hx.get
  obtain ⟨vq, vc, rfl⟩ := h.slice
  rw [List.length_map] at hxl ⊢
  have c0 : w.cell? ⟨l, 0, none⟩ = some (.slice vq evs.length vc) := h.hdr.cell 0 (by simp)
  have hlw : l < w.heap.size := h.hdr.lt
  have hxI : (0 : Int) ≤ (xs.length : Int) := by omega
  have hvlt := h.lt
  replace h := Lib.hid h
  replace hx := Lib.hid hx
  replace hs := Lib.hid hs
  replace hvlt := Lib.hid hvlt
  go_enter Tryd.func14, Tryd.ntmps14
  go_wp2_with fail
  go_loopw [17] (fun iv wr => ∃ (k : Nat) (v2 : Value), k ≤ xs.length ∧ iv = .int .i64 (k : Int) ∧ LogAt wr m l (putS (evs, lost) (xs.take k)).1 (putS (evs, lost) (xs.take k)).2 v2 ∧ OldNew w.heap.size (.slice vq evs.length vc) v2 ∧ Chg (LW l (.slice vq evs.length vc)) w wr) (fun iv _ => xs.length - (intOf iv).toNat)
  case atStart => exact ⟨0, _, Nat.zero_le _, rfl, h.out, .inl rfl, Chg.refl _ _⟩
  case round =>
    clear c0
    obtain ⟨k, v2, hk, rfl, hL, hO, hC⟩ := hrel
    obtain ⟨wo, hwo⟩ : ∃ x : World, x = wr := ⟨_, rfl⟩
    rw [← hwo] at hL hC ⊢
    clear hwo
    have hk0 : (0 : Int) ≤ (k : Int) := by omega
    by_cases hlt : k < xs.length
    · have hltI := Int.ofNat_lt.2 hlt
      have hstep := putS_take (evs, lost) xs k hlt
      have hlen := putS_len (xs.take k) (evs, lost) h4
      have hlost := putS_lost (xs.take k) (evs, lost)
      rw [List.length_take, Nat.min_eq_left hk] at hlost
      have hxw := hx.out.chg hC hs.out
      obtain ⟨q', c', hv', _, _, hcell⟩ := hxw.get
      obtain ⟨cb, off, hq', hcell⟩ := hcell k (by rw [List.length_map]; exact hlt)
      simp only [Value.slice.injEq] at hv'
      obtain rfl : q = some ⟨cb, off, none⟩ := hv'.1.trans hq'
      have e0 : (xs.map evC).getD k [] = evC xs[k] := by simp [List.getD, hlt]
      rw [e0] at hcell
      have y0 := hcell 0 (by decide)
      have y1 := hcell 1 (by decide)
      have y2 := hcell 2 (by decide)
      have y3 := hcell 3 (by decide)
      have y4 := hcell 4 (by decide)
      clear hcell hv' hq' e0 hxw
      generalize putS (evs, lost) (xs.take k) = s at *
      generalize hx1 : xs[k] = e at *
      obtain ⟨t, kd, a, b, n⟩ := e
      simp only [evC, List.getD_cons_zero, List.getD_cons_succ, Nat.add_zero] at y0 y1 y2 y3 y4
      obtain ⟨A, hA⟩ : ∃ A, A = wo.heap.size := ⟨_, rfl⟩
      have hB := Blk.new wo 28 [.int .u64 (t : Int), .int .i64 kd, .int .i64 a, .int .i64 b, .int .u64 (n : Int)]
      have hKA := Keeps.alloc wo (.cells [Value.int .u64 (t : Int), .int .i64 kd, .int .i64 a, .int .i64 b, .int .u64 (n : Int)].toArray 28)
      rw [← hA] at hB
      have hL2 := hL.keeps hKA
      have hC2 : Chg (LW l (.slice vq evs.length vc)) w _ := hC.trans (Chg.of_keeps hKA)
      have hwA : w.heap.size ≤ A := by rw [hA]; exact hC.size
      have hvA : ∀ b, v2.ownBlock = some b → b ≠ A := fun b hb => by have := hL.lt b hb; omega
      have hlA : l ≠ A := by have := hL.hdr.lt; omega
      replace hA := Lib.hid hA
      replace hB := Lib.hid hB
      replace hL2 := Lib.hid hL2
      replace hC2 := Lib.hid hC2
      replace hx1 := Lib.hid hx1
      replace hO := Lib.hid hO
      replace hstep := Lib.hid hstep
      replace hvA := Lib.hid hvA
      clear hL hC hKA
      go_upto_region 8 with (fail)
      rw [← hA.out]
      refine wp_gen (fun W => LogAt W m l s.1 s.2 v2 ∧ Blk W A 28 [.int .u64 (t : Int), .int .i64 kd, .int .i64 a, .int .i64 b, .int .u64 (n : Int)] ∧ Chg (LW l (.slice vq evs.length vc)) w W) ⟨hL2.out, hB.out, hC2.out⟩ ?_
      clear hL2 hB hC2 hA y0 y1 y2 y3 y4
      rintro W ⟨hL, hB, hC⟩
      have q0 := hB.cell 0 (by simp)
      have q1 := hB.cell 1 (by simp)
      have q2 := hB.cell 2 (by simp)
      have q3 := hB.cell 3 (by simp)
      have q4 := hB.cell 4 (by simp)
      simp only [List.getElem_cons_zero, List.getElem_cons_succ] at q0 q1 q2 q3 q4
      have hr := right_any (t : Int) (n : Int) kd a b W
      replace hr := Lib.hid hr
      replace hL := Lib.hid hL
      replace hB := Lib.hid hB
      replace hC := Lib.hid hC
      clear q0 q1 q2 q3 q4
      have z0 := hB.out.cell 0 (by simp)
      have z1 := hB.out.cell 1 (by simp)
      have z2 := hB.out.cell 2 (by simp)
      have z3 := hB.out.cell 3 (by simp)
      have z4 := hB.out.cell 4 (by simp)
      simp only [List.getElem_cons_zero, List.getElem_cons_succ] at z0 z1 z2 z3 z4
      go_wp2_with fail
      with_reducible refine (hr.out).mono ?_
      rintro e2 w2 ⟨rfl, hK2⟩
      have hL2 := hL.out.keeps hK2
      have hC2 := hC.out.trans (Chg.of_keeps hK2)
      have hB2 := hB.out.keeps hK2
      clear hL hC hB hr z0 z1 z2 z3 z4
      cases hkd : isKd kd with
      | false =>
        have hp1 : put1 s ⟨t, kd, a, b, n⟩ = s := by unfold put1; rw [if_pos hkd]
        rw [hp1] at hstep
        replace hL2 := Lib.hid hL2
        replace hC2 := Lib.hid hC2
        clear hB2
        go_wp2_with fail
        refine ⟨⟨k + 1, v2, by omega, by rw [show (k : Int) + 1 = ((k + 1 : Nat) : Int) by omega], ?_, hO.out, hC2.out⟩, ?_⟩
        · rw [hstep.out]; exact hL2.out
        · show xs.length - (intOf (.int .i64 ((k : Int) + 1))).toNat < xs.length - (intOf (.int .i64 (k : Int))).toNat
          simp only [intOf]; omega
      | true =>
        obtain ⟨vq2, vc2, rfl⟩ := hL2.slice
        have l0 : w2.cell? ⟨l, 0, none⟩ = some (.slice vq2 s.1.length vc2) := hL2.hdr.cell 0 (by simp)
        have l1 : w2.cell? ⟨l, 1, none⟩ = some (.int .i64 s.2) := hL2.hdr.cell 1 (by simp)
        by_cases hfull : s.1.length = 4096
        · have hp1 : put1 s ⟨t, kd, a, b, n⟩ = (s.1, s.2 + 1) := by unfold put1; rw [if_neg (by show ¬ isKd kd = false; rw [hkd]; decide), if_pos hfull]
          rw [hp1] at hstep
          have f1 : w2.frozen? ⟨l, 1, none⟩ = false := hL2.hdr.frozen 1
          have hset := hL2.setLost (s.2 + 1)
          have hC3 : Chg (LW l (.slice vq evs.length vc)) w _ := hC2.trans (Chg.setCell (b := l) (w := w2) 1 (.int .i64 (s.2 + 1)) (.inl rfl))
          have hs0 : 0 ≤ s.2 := by omega
          have hs1 : s.2 ≤ 1000000 := by omega
          have hfI : ((s.1.length : Nat) : Int) = 4096 := by omega
          replace hset := Lib.hid hset
          replace hC3 := Lib.hid hC3
          clear hB2 hL2 hC2 hp1
          go_wp2_with fail
          refine ⟨⟨k + 1, _, by omega, by rw [show (k : Int) + 1 = ((k + 1 : Nat) : Int) by omega], ?_, hO.out, hC3.out⟩, ?_⟩
          · rw [hstep.out]; exact hset.out
          · show xs.length - (intOf (.int .i64 ((k : Int) + 1))).toNat < xs.length - (intOf (.int .i64 (k : Int))).toNat
            simp only [intOf]; omega
        · have hp1 : put1 s ⟨t, kd, a, b, n⟩ = (s.1 ++ [⟨t, kd, a, b, n⟩], s.2) := by unfold put1; rw [if_neg (by show ¬ isKd kd = false; rw [hkd]; decide), if_neg hfull]
          rw [hp1] at hstep
          have hfI : ¬ ((s.1.length : Nat) : Int) = 4096 := by omega
          have f0 : w2.frozen? ⟨l, 0, none⟩ = false := hL2.hdr.frozen 0
          obtain ⟨z0, z1, z2, z3, z4⟩ := evBlk hB2
          have hl40 : s.1.length + 1 ≤ 4096 := by omega
          have hsep : ∀ b, Value.ownBlock (.slice vq2 s.1.length vc2) = some b → ¬ b = A := fun b hb => hvA.out b hb
          have hKa := (Keeps.drew w2).trans (Keeps.alloc w2.drew (.cells #[.int .u64 (t : Int), .int .i64 kd, .int .i64 a, .int .i64 b, .int .u64 (n : Int)] 28))
          have hL3 := hL2.keeps hKa
          have hB3 := hB2.keeps hKa
          replace hB3 := Lib.hid hB3
          have hC3 := hC2.trans (Chg.of_keeps hKa)
          have hsrc : SlcS 5 _ _ _ := slcs_one (Blk.new w2.drew 28 (evC ⟨t, kd, a, b, n⟩)) rfl
          have hsz : m ≤ (w2.drew.alloc (.cells #[.int .u64 (t : Int), .int .i64 kd, .int .i64 a, .int .i64 b, .int .u64 (n : Int)] 28)).heap.size := Nat.le_trans hL3.le (Nat.le_of_lt hL3.hdr.lt)
          have hlen1 : (s.1.map evC).length + [evC ⟨t, kd, a, b, n⟩].length ≤ maxLen := by rw [List.length_map]; simp only [maxLen, List.length_singleton]; omega
          have hlen2 : ((s.1.map evC).length + [evC ⟨t, kd, a, b, n⟩].length) * 40 ≤ 140737488355328 := by rw [List.length_map]; simp only [List.length_singleton]; omega
          replace hL3 := Lib.hid hL3
          replace hC3 := Lib.hid hC3
          replace hsrc := Lib.hid hsrc
          replace hsz := Lib.hid hsz
          replace hlen1 := Lib.hid hlen1
          replace hlen2 := Lib.hid hlen2
          replace hsep := Lib.hid hsep
          clear hB2 hL2 hC2 hp1 hKa
          have l0a := kcell (Keeps.alloc w2 (.cells #[.int .u64 (t : Int), .int .i64 kd, .int .i64 a, .int .i64 b, .int .u64 (n : Int)] 28)) l0
          go_wp2_with fail
          go_region_law (first
              | (refine appStepN (by rfl) _ _ 33 28 _ 5 40 (by rfl) Tryd.underlying33 infoEv rfl (by decide) m _ _ (by rfl) hL3.out.row _ _ [evC ⟨t, kd, a, b, n⟩] (by rfl) hsrc.out (fun el he => by obtain rfl := List.mem_singleton.1 he; exact evC_one _) hlen1.out hlen2.out hsz.out ?_; intro v' w3 hrow3 hgrow hbel hat; obtain ⟨g, gcap, rfl, _⟩ := hrow3.slice (by simp); obtain ⟨hLn, hCn, hf0, hu0⟩ := hL3.out.push hrow3 hgrow; have hz := evBlk (hB3.out.kept hgrow (fun e => hsep.out A e.symm rfl)); replace hLn := Lib.hid hLn; replace hCn := Lib.hid hCn; replace hat := Lib.hid hat; clear hrow3 hgrow hbel))
          all_goals
            simp only [List.length_append, List.length_map, List.length_singleton] at hLn hCn hat
            have hO3 := hO.out.step (Nat.le_trans hC3.out.size (Nat.le_refl _)) hat.out
            have hC4 := chg_then hC3.out hCn.out (fun b hb ht => by
              rcases ht with ht | ht
              · exact .inl ht
              · rcases hO.out with ho | ho
                · exact .inr (ho ▸ ht)
                · exact absurd (ho b ht) (by omega))
            replace hO3 := Lib.hid hO3
            replace hC4 := Lib.hid hC4
            clear hC3 hCn hat hu0 hf0 hz
            go_wp2_with fail
            refine ⟨⟨k + 1, _, by omega, by rw [show (k : Int) + 1 = ((k + 1 : Nat) : Int) by omega], ?_, hO3.out, hC4.out⟩, ?_⟩
            · rw [hstep.out]; exact hLn.out
            · show xs.length - (intOf (.int .i64 ((k : Int) + 1))).toNat < xs.length - (intOf (.int .i64 (k : Int))).toNat
              simp only [intOf]; omega
    · obtain rfl : k = xs.length := by omega
      rw [List.take_length] at hL
      obtain ⟨vq2, vc2, rfl⟩ := hL.slice
      have l0 : wo.cell? ⟨l, 0, none⟩ = some (.slice vq2 (putS (evs, lost) xs).1.length vc2) := hL.hdr.cell 0 (by simp)
      have hge := putS_grow xs (evs, lost)
      have hlen := putS_len xs (evs, lost) h4
      obtain ⟨s, hsd⟩ : ∃ s, s = putS (evs, lost) xs := ⟨_, rfl⟩
      rw [← hsd] at hL l0 hge hlen
      replace hsd := Lib.hid hsd
      have hge' : evs.length ≤ s.1.length := hge
      replace hL := Lib.hid hL
      replace hO := Lib.hid hO
      replace hC := Lib.hid hC
      clear hge
      have hwr : IntKind.i64.wrap ((s.1.length : Int) - (evs.length : Int)) = (s.1.length : Int) - (evs.length : Int) := IntWalk.i64_in _ (by omega)
      go_wp2_with fail
      go_ret
      obtain rfl := hsd.out
      exact ⟨rfl, _, hL.out, hO.out, hC.out⟩
end Go.Proofs.YtedfkonpkmckbaaDoor
