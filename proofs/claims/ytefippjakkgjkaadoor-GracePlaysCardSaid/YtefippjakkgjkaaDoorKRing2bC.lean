/- The walks of package ring, at callbacks: List. -/
import Derived.Test.YtefippjakkgjkaaDoorKRing2C
import Derived.Test.YtefippjakkgjkaaDoorIterG
namespace Go.Proofs.YtefippjakkgjkaaDoor.K
open Go.RowKit Go.Proofs.YtefippjakkgjkaaDoor Go.Shelf
attribute [local go_sem] Oper.semAt_some

set_option maxRecDepth 100000 in
set_option maxHeartbeats 1000000 in
/-- **r.all()'s function.** -/
theorem all1_in (l B n₀ O p b room hd : Nat) (xs : List El) (J Jx : List El → World → Prop) (W : World)
    (hY : ∀ pre x W1, J pre W1 → pre.length < xs.length → YieldAt Fence.wide 7 Tryd.prog l #[.agg #[.int .i64 x.1, .int .i64 x.2]] W1 fun e W' =>
      (e = .returned (.bool true) ∧ J (pre ++ [x]) W' ∧ KeepR n₀ O W1 W') ∨ (e = .returned (.bool false) ∧ Jx (pre ++ [x]) W'))
    (hJd : ∀ pre W1 n, J pre W1 → J pre (W1.drewN n))
    (hB : Boxed W B 110 (.pointer (some ⟨p, 0, none⟩))) (haB : ApartR W O B) (hap : ApartR W O p) (hab : ApartR W O b) (hOl : O < W.heap.size) (hn : n₀ ≤ W.heap.size) (hR : RingAt W p b room hd xs) (h0 : J [] W) :
    CallsIn Fence.wide 8 Tryd.prog 101 #[.func (.yield l) #[] #[], .pointer (some ⟨B, 0, none⟩)] W fun e W' => (∃ v, e = .returned v) ∧
      ((∃ ys, ys = xs ∧ J ys W') ∨ (∃ pre, pre <+: xs ∧ Jx pre W')) := by
  have hle := hR.len
  have hlo := hR.lo
  have hhi := hR.hi
  have hBc := hB.cell
  refine callsIn_of_wp Tryd.func101 rfl trivial ?_ rfl
  simp only [Tryd.ntmps101, List.size_toArray, List.length_cons, List.length_nil, Nat.reduceAdd, Nat.reduceSub, Array.replicate_succ, Array.replicate_zero, List.push_toArray, List.append_toArray, List.nil_append, List.cons_append]
  gi_wp2_with (refine ⟨trivial, ?_⟩; gi_at_call 94; refine (callsIn_wide.2 (len_any hR)).mono ?_; rintro e w' ⟨rfl, rfl⟩)
  gi_loopw [6] (fun i wr => ∃ k : Nat, k ≤ xs.length ∧ i = .int .i64 k ∧ KeepR n₀ O W wr ∧ J (xs.take k) wr) (fun i _ => xs.length - (intOf i).toNat)
  case atStart => exact ⟨0, Nat.zero_le _, rfl, KeepR.refl hn hOl, h0⟩
  case round =>
    obtain ⟨k, hk, rfl, hKR, hJs⟩ := hrel
    by_cases hlt : k < xs.length
    · have hRr : RingAt wr p b room hd xs := ⟨hR.ne, hKR.blk hR.hdr hap, by obtain ⟨els, h1, h2⟩ := hR.buf; exact ⟨els, hKR.blk h1 hab, h2⟩, hR.hdlt, hle, hlo, hhi⟩
      have hBr := (hKR.boxed hB haB).cell
      have c0 := hRr.hdr.cell 0 (by simp)
      simp only [List.getElem_cons_zero] at c0
      obtain ⟨els, hbuf, hcl, hs, hcs⟩ := hRr.buf
      have hj : (hd + k) % room < room := Nat.mod_lt _ (by omega)
      have e0 := elsCell hbuf hs (hcs k hlt) 0 (by decide)
      have e1 := elsCell hbuf hs (hcs k hlt) 1 (by decide)
      simp only [xc, Nat.add_zero, List.getD_cons_zero, List.getD_cons_succ] at e0 e1
      have hpl := fun n => place_any p b room hd _ (k : Int) (wr.drewN n) hRr.hdr hRr.hdlt hlo hhi (by omega) (by omega)
      simp only [Int.toNat_natCast] at hpl
      have hy0 := fun n => hY (xs.take k) xs[k] (wr.drewN n) (hJd _ _ _ hJs) (by rw [List.length_take]; omega)
      have hnext := Lib.hid (show xs.take (k + 1) = xs.take k ++ [xs[k]] by rw [List.take_succ_eq_append_getElem hlt])
      have hltI : (k : Int) < xs.length := by omega
      have hws : n₀ ≤ wr.heap.size := Nat.le_trans hn hKR.below.size
      have hOw : O < wr.heap.size := Nat.lt_of_lt_of_le hOl hKR.below.size
      replace hpl := Lib.hid hpl
      replace hy0 := Lib.hid hy0
      replace hY := Lib.hid hY
      replace hJd := Lib.hid hJd
      replace hKR := Lib.hid hKR
      replace hR := Lib.hid hR
      clear hRr hbuf hcl hs hcs
      generalize (hd + k) % room = j at *
      generalize xs[k] = x at *
      gi_wp2
      refine regionIn_quiet_tail (r := none) 10 (by kernel_rfl) (by kernel_rfl) (by kernel_rfl) ?_
      simp only [List.take_succ_cons, List.take_zero, List.drop_succ_cons, List.drop_zero]
      repeat (quiet_step ((with_reducible exact Calls.quiet_of (hpl.out _))))
      refine wpQuiet_nil ?_
      rintro _ ⟨nq, rfl⟩
      obtain ⟨fn, tmps, assign, body, hy, hRd⟩ := hy0.out nq
      gi_wp2
      refine hRd.mono ?_
      rintro e W3 (⟨rfl, hJ3, hk3⟩ | ⟨rfl, hJx3⟩)
      · gi_wp2
        go_roundw
        case rel => exact ⟨k + 1, by omega, by go_num, hKR.out.trans ((KeepR.of_keeps (Keeps.drewN wr nq) hws hOw).trans hk3), by rw [hnext.out]; exact hJ3⟩
        case measure => (simp [intOf]; try omega)
      · gi_wp2
        refine bodyPost_ret (results_none rfl _ _ _) rfl ?_
        exact ⟨⟨_, rfl⟩, .inr ⟨xs.take k ++ [x], ⟨xs.drop (k + 1), by rw [← hnext.out, List.take_append_drop]⟩, hJx3⟩⟩
    · obtain rfl : k = xs.length := by omega
      rw [List.take_of_length_le (Nat.le_refl _)] at hJs
      gi_wp2
      go_end0
      exact ⟨⟨_, rfl⟩, .inl ⟨xs, rfl, hJs⟩⟩
theorem all_stops (B n₀ O p b room hd : Nat) (xs : List El) (w : World) (hB : Boxed w B 110 (.pointer (some ⟨p, 0, none⟩))) (hBO : B ≠ O) (hpO : p ≠ O) (hbO : b ≠ O) (hOl : O < w.heap.size) (hOv : w.cell? ⟨O, 0, none⟩ = some (.slice none 0 0)) (hn : n₀ ≤ w.heap.size) (hR : RingAt w p b room hd xs) :
    SeqStopsK Fence.wide 8 Tryd.prog 101 #[.pointer (some ⟨B, 0, none⟩)] (fun x : El => #[.agg #[.int .i64 x.1, .int .i64 x.2]]) (KeepR n₀ O) (fun ys => ys = xs) (fun pre => pre <+: xs) xs.length w := fun l J Jx W hW hJ _ hY h0 => by
  have hOW : W.cell? ⟨O, 0, none⟩ = some (.slice none 0 0) := (hW.cell (p := ⟨O, 0, none⟩) hOl).trans hOv
  have hap : ∀ k, k ≠ O → ApartR W O k := fun k hk => ⟨hk, fun v hv => by rw [hOW] at hv; cases hv; simp [Value.ownBlock]⟩
  exact all1_in l B n₀ O p b room hd xs J Jx W hY (fun pre W1 n h => hJ pre W1 _ none h ⟨rfl, rfl, rfl, Nat.le_refl _, fun _ _ _ => rfl⟩ (fun r e => by cases e))
    ((hW.block B hB.lt).trans hB) (hap B hBO) (hap p hpO) (hap b hbO) (Nat.lt_of_lt_of_le hOl hW.size) (Nat.le_trans hn hW.size) (hR.keeps hW) h0
set_option maxHeartbeats 400000 in
theorem all_any (q0 : Option Addr) (w : World) :
    Calls Tryd.prog 99 #[.pointer q0] w fun e w' => e = .returned (.func (.func 101) #[] #[.pointer (some ⟨w.heap.size, 0, none⟩)]) ∧ w.alloc (.cells #[.pointer q0] 110) = w' := by
  go_enter Tryd.func99, Tryd.ntmps99
  go_wp2
  go_ret
  exact ⟨rfl, rfl⟩
set_option maxRecDepth 100000 in
set_option maxHeartbeats 2000000 in
/-- **List**, in new memory. -/
theorem list_any {p b room hd : Nat} {xs : List El} {w : World} (hR : RingAt w p b room hd xs) :
    Calls Tryd.prog 96 #[.pointer (some ⟨p, 0, none⟩)] w fun e w' => ∃ v, e = .returned v ∧ RowS 2 w.heap.size 114 w' v (xs.map xc) ∧ Keeps w w' := by
  obtain ⟨hpl, hbl⟩ := hR.lt
  have hlen := hR.len
  have hhi := hR.hi
  refine (callsIn_wide (n := 9)).1 ?_
  refine callsIn_of_wp_marks Tryd.func96 rfl trivial ?_ rfl
  simp only [Tryd.ntmps96, List.size_toArray, List.length_cons, List.length_nil, Nat.reduceAdd, Nat.reduceSub, Array.replicate_succ, Array.replicate_zero, List.push_toArray, List.append_toArray, List.nil_append, List.cons_append]
  gi_wp2_with (refine ⟨trivial, ?_⟩; gi_at_call 99; refine (callsIn_wide.2 (all_any _ _)).mono ?_; rintro e w' ⟨rfl, rfl⟩)
  have bO := Boxed.new w 122 (.slice none 0 0)
  have bM := Boxed.new (w.alloc (.cells #[.slice none 0 0] 122)) 110 (.pointer (some ⟨p, 0, none⟩))
  rw [World.size_alloc] at bM
  have hB0 : Keeps w ((w.alloc (.cells #[.slice none 0 0] 122)).alloc (.cells #[.pointer (some ⟨p, 0, none⟩)] 110)) := (Keeps.alloc _ _).trans (Keeps.alloc _ _)
  have hsz : ((w.alloc (.cells #[.slice none 0 0] 122)).alloc (.cells #[.pointer (some ⟨p, 0, none⟩)] 110)).heap.size = w.heap.size + 2 := by simp
  refine iter_ruleH w (KeepR w.heap.size w.heap.size) KeepR.trans (fun W l o o' hl hlo hc _ => KeepR.putObj hlo hc (by omega) (by omega)) (gf := 101) (lb := #[.pointer (some ⟨w.heap.size + 1, 0, none⟩)]) rfl (enters_of Tryd.func101 (by kernel_rfl) rfl)
    (all_stops (w.heap.size + 1) w.heap.size w.heap.size p b room hd xs _ bM (by omega) (by omega) (by omega) (by omega) (bO.alloc _).cell (by omega) (hR.keeps hB0)) (Below.refl _ _) hB0 (fun _ => rfl)
    (fun pre W => ∃ v, Boxed W w.heap.size 122 v ∧ RowS 2 (w.heap.size + 1) 114 W v (pre.map xc) ∧ w.heap.size + 2 ≤ W.heap.size)
    (fun c pre W => False)
    (fun pre => Stays.ex fun v => (Stays.boxed _ _ _ _).and ((Stays.and Stays.row (Stays.pure _ _)).and (Stays.size _ _)))
    (fun c pre => Stays.pure _ _)
    ⟨_, bO.alloc _, RowS.nil _ _ _ _, by omega⟩
    (fun x a' W => ∃ B, w.heap.size + 2 ≤ B ∧ Blk W B 114 (xc x) ∧ a' = { tmps := #[.pointer (some ⟨p, 0, none⟩), undef, .slice none 0 0, .pointer (some ⟨w.heap.size, 0, none⟩), .pointer (some ⟨B, 0, none⟩), .pointer (some ⟨p, 0, none⟩), .func (.func 101) #[] #[.pointer (some ⟨w.heap.size + 1, 0, none⟩)], .agg #[.int .i64 x.1, .int .i64 x.2], undef, undef, undef, undef, undef], defers := [] })
    (fun x a' => Stays.ex fun B => (Stays.pure _ _).and ((Stays.blk _ _ _ _).and (Stays.pure _ _)))
    ?assign ?body ?done ?stop
  case assign =>
    rintro l pre x W K hb ⟨v, hv, hrow, hsz2⟩ hK
    have hk : Keeps W (W.alloc (.cells (xc x).toArray 114)) := Keeps.alloc _ _
    have hbs := hb.size
    have hvl := hv.lt
    gi_wp2
    exact hK _ _ (keepsFrom_keeps hk) (KeepR.of_keeps hk hbs hvl) (below_of_keeps hk hbs) ⟨v, hv.alloc _, hrow.alloc _, by simp; omega⟩ ⟨W.heap.size, hsz2, Blk.new _ _ _, rfl⟩
  case body =>
    rintro l pre x a' W hb hlt ⟨v, hv, hrow, hsz2⟩ ⟨B, hBB, hBx, rfl⟩
    have hc := hv.cell
    have x0 := hBx.cell 0 (by simp [xc])
    have x1 := hBx.cell 1 (by simp [xc])
    simp only [xc, List.getElem_cons_zero, List.getElem_cons_succ] at x0 x1
    have hbs := hb.size
    have hvl := hv.lt
    have hml : (pre.map xc).length = pre.length := by simp
    gi_wp2_with (gi_at_builtin; refine appOneIn rfl _ _ 122 114 _ 2 16 rfl Tryd.underlying122 info rfl (by decide) (w.heap.size + 1) _ _ rfl hrow (xc x) rfl rfl (xc_one _) ?c1 ?c2 ?c3 ?_)
    case c1 => rw [hml]; unfold maxLen; omega
    case c2 => rw [hml]; omega
    case c3 => omega
    intro g2 cap2 W1 hrow2 hgrow hbel hat
    obtain ⟨W2, hW2⟩ : ∃ W2, W2 = W1.setCell ⟨w.heap.size, 0, none⟩ (.slice (some ⟨g2, 0, none⟩) (pre.length + 1) cap2) := ⟨_, rfl⟩
    have hne : v.ownBlock ≠ some w.heap.size := fun e => by have := hrow.own _ e; omega
    have hv1 : Boxed W1 w.heap.size 122 v := (hv.alloc _).kept hgrow (fun e => hne e.symm)
    have hc1 := hv1.cell
    have hf1 := hv1.frozen
    have hbel1 : Below w.heap.size W W1 := Below.mono hbel (by omega)
    have hat1 : (Value.slice (some ⟨g2, 0, none⟩) (pre.length + 1) cap2).ownBlock = v.ownBlock ∨ ∀ r, (Value.slice (some ⟨g2, 0, none⟩) (pre.length + 1) cap2).ownBlock = some r → W.heap.size ≤ r := by
      rcases hat with h | h
      · exact .inl h.symm
      · exact .inr fun r e => by simp [Value.ownBlock] at e; omega
    have hkr : KeepR w.heap.size w.heap.size W W2 := KeepR.appended hv hgrow hbel1 (Nat.le_refl _) hat1 hW2 (by rw [hc1]; rfl)
    have hrow3 : RowS 2 (w.heap.size + 1) 114 W2 (.slice (some ⟨g2, 0, none⟩) (pre.length + 1) cap2) ((pre ++ [x]).map xc) := by
      rw [hW2]
      refine RowS.chg (S := (· = w.heap.size)) ?_ (Chg.setCell _ _ rfl) (fun b hb hs => by omega)
      simpa [List.map_append, List.map_map] using hrow2
    have hv2 : Boxed W2 w.heap.size 122 (.slice (some ⟨g2, 0, none⟩) (pre.length + 1) cap2) := by rw [hW2]; exact hv1.set _
    have hko : KeepsOthers W W2 := by rw [hW2]; exact keepsOthers_appended hrow hgrow _ _
    have hbel2 : Below w.heap.size W W2 := hkr.below
    have hs2 : w.heap.size + 2 ≤ W2.heap.size := Nat.le_trans hsz2 hbel2.size
    replace hW2 := Lib.hid hW2
    replace hkr := Lib.hid hkr
    replace hrow3 := Lib.hid hrow3
    replace hv2 := Lib.hid hv2
    replace hko := Lib.hid hko
    clear hrow2 hgrow hbel hrow hv hat hat1 hc x0 x1
    gi_wp2
    rw [← hW2.out]
    exact ⟨⟨hko.out.from _, hbel2, _, hv2.out, hrow3.out, hs2⟩, hkr.out⟩
  case done =>
    rintro D W hD hb ⟨v, hv, hrow, hsz2⟩ hK
    have hc := hv.cell
    gi_wp2
    refine ret_marks hK rfl (v := v) ?_ ⟨v, rfl, ?_, hb.putObj _ (by omega) hK⟩
    · exact results_tmp (fn := Tryd.f96) rfl _ _ _
    · exact RowS.base_le ⟨ownsRow_putObj hrow.1 _ hK rfl, hrow.2⟩ (by omega)
  case stop =>
    rintro D c pre W hD hpre hb h hK
    exact h.elim
end Go.Proofs.YtefippjakkgjkaaDoor.K
