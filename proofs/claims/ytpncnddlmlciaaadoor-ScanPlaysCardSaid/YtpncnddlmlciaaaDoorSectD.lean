/- The walks of package sect: Enter, Open. -/
import Derived.Test.YtpncnddlmlciaaaDoorSectC
import Derived.Test.YtpncnddlmlciaaaDoorMaskI
namespace Go.Proofs.YtpncnddlmlciaaaDoor
open Go.RowKit Go.Shelf
attribute [local go_sem] Oper.semAt_some

theorem Slc.chgN {S : Nat → Prop} {w w' : World} {v : Value} {xs : List Value} (h : Slc w v xs) (hm : Chg S w w') (hsep : ∀ b, v.ownBlock = some b → 0 < xs.length → ¬ S b) : Slc w' v xs := by
  obtain ⟨q, cap, rfl, hl, hc, hn, h⟩ := h
  refine ⟨q, cap, rfl, hl, hc, hn, fun k hk => ?_⟩
  obtain ⟨c, off, rfl, hcell⟩ := h k hk
  exact ⟨c, off, rfl, (World.cell?_of_block (w := w) (hm.block c (cell_lt hcell) (hsep c rfl (by omega)))).trans hcell⟩
theorem Slc.ownLt {w : World} {v : Value} {xs : List Value} (h : Slc w v xs) : ∀ b, v.ownBlock = some b → 0 < xs.length → b < w.heap.size := by
  intro b hb h0
  obtain ⟨q, cap, rfl, _, _, _, h⟩ := h
  obtain ⟨c, off, rfl, hcell⟩ := h 0 h0
  obtain rfl : c = b := by simpa [Value.ownBlock] using hb
  exact cell_lt hcell
set_option maxHeartbeats 400000 in
theorem enters_nil (p : Option Addr) (n c : Nat) (w : World) : Calls Tryd.prog 13 #[.pointer none, .slice p n c] w fun e w' => e = .returned (.int .i64 6) ∧ w = w' := by
  go_enter Tryd.func13, Tryd.ntmps13
  go_wp2
  go_ret
  exact ⟨rfl, rfl⟩
theorem SSt.ents_cons (S : SSt) (r : Int) (l : List Int) : S.ents (r :: l) = if S.entE r = 0 then (S.ent r).ents l else (S, S.entE r) := rfl
set_option maxRecDepth 100000 in
set_option maxHeartbeats 1000000 in
theorem enters_any {w : World} {p : Nat} {S : SSt} (h : SectAt w p S) (v : Value) (zs : List Int) (hv : Ints w v zs) (hsep : ∀ b, v.ownBlock = some b → 0 < zs.length → b ≠ p) (hst : S.st + zs.length < 1000000) :
    Calls Tryd.prog 13 #[.pointer (some ⟨p, 0, none⟩), v] w fun e w' => e = .returned (.int .i64 (S.ents zs).2) ∧ SectAt w' p (S.ents zs).1 ∧ Chg (· = p) w w' := by
  obtain ⟨q, cap, rfl, hl, hc, _⟩ := hv.open
  replace hv := Lib.hid hv
  replace hsep := Lib.hid hsep
  replace h := Lib.hid h
  go_enter Tryd.func13, Tryd.ntmps13
  go_wp2_with fail
  go_loopw [12] (fun i wr => ∃ (k : Nat) (T : SSt), k ≤ zs.length ∧ i = .int .i64 k ∧ SectAt wr p T ∧ Chg (· = p) w wr ∧ T.st ≤ S.st + k ∧ Hid (T.ents (zs.drop k) = S.ents zs)) (fun i _ => zs.length - (intOf i).toNat)
  case atStart => exact ⟨0, S, Nat.zero_le _, rfl, h.out, Chg.refl _ _, Nat.le_refl _, Lib.hid rfl⟩
  case round =>
    clear h
    obtain ⟨k, T, hk, rfl, hT, hC, hTs, hE⟩ := hrel
    by_cases hlt : k < zs.length
    · obtain ⟨q', cap', hv', _, _, hcell⟩ := Ints.open (Slc.chgN hv.out hC (fun b hb h0 => hsep.out b hb (by simpa using h0)))
      obtain ⟨b, off, hp, hc1⟩ := hcell k hlt
      have hq : q = some ⟨b, off, none⟩ := by simp at hv'; rw [hv'.1]; exact hp
      subst hq
      have hen := enter1_any hT (by omega) zs[k]
      have hst1 := SSt.ent_st T zs[k]
      have hE' := hE.out
      rw [List.drop_eq_getElem_cons hlt, SSt.ents_cons] at hE'
      clear hcell hv' hp hT
      generalize zs[k] = z at *
      by_cases h0 : T.entE z = 0
      · rw [if_pos h0] at hE'
        rw [h0] at hen
        generalize T.ent z = T2 at *
        replace hE' := Lib.hid hE'
        replace hen := Lib.hid hen
        replace hC := Lib.hid hC
        clear hE h0
        go_wp2_with fail
        refine hen.out.mono ?_
        rintro e w' ⟨rfl, hT2, hC2⟩
        replace hT2 := Lib.hid hT2
        replace hC2 := Lib.hid hC2
        go_wp2_with fail
        go_roundw
        case rel => exact ⟨k + 1, T2, by omega, by go_num, hT2.out, hC.out.trans hC2.out, by omega, hE'⟩
        case measure => (simp [intOf]; try omega)
      · rw [if_neg h0] at hE'
        have hb : (T.entE z != 0) = true := by simpa using h0
        have hTT : T.ent z = T := by
          unfold SSt.entE at h0
          unfold SSt.ent
          split
          · rename_i hr; rw [if_pos hr] at h0
            split
            · rfl
            · rename_i h8; rw [if_neg h8] at h0; exact absurd rfl h0
          · rfl
        rw [hTT] at hen
        clear hTT hE hst1
        replace hE' := Lib.hid hE'
        generalize T.entE z = E at *
        replace hen := Lib.hid hen
        replace hC := Lib.hid hC
        replace h0 := Lib.hid h0
        go_wp2_with fail
        refine hen.out.mono ?_
        rintro e w' ⟨rfl, hT2, hC2⟩
        replace hT2 := Lib.hid hT2
        replace hC2 := Lib.hid hC2
        go_wp2_with fail
        go_ret
        exact ⟨ret_int (congrArg Prod.snd hE'.out), by rw [← hE'.out]; exact hT2.out, hC.out.trans hC2.out⟩
    · obtain rfl : k = zs.length := by omega
      have hE' := hE.out
      rw [List.drop_length] at hE'
      replace hE' := Lib.hid hE'
      clear hE
      replace hT := Lib.hid hT
      replace hC := Lib.hid hC
      go_wp2_with fail
      go_ret
      exact ⟨ret_int (congrArg Prod.snd hE'.out), by rw [← hE'.out]; exact hT.out, hC.out⟩

/-- Whose sections are open up to a stamp, of the first k that are inside. -/
def openTo (S : SSt) (stamp : Int) (k : Nat) : List Nat := ((listN S.m).take k).filter fun r => decide ((S.sin r : Int) ≤ stamp)
theorem openTo_succ (S : SSt) (stamp : Int) (k : Nat) (h : k < (listN S.m).length) : openTo S stamp (k + 1) = openTo S stamp k ++ (if (S.sin (listN S.m)[k] : Int) ≤ stamp then [(listN S.m)[k]] else []) := by
  unfold openTo
  rw [List.take_succ_eq_append_getElem h, List.filter_append, List.filter_cons]
  by_cases e : (S.sin (listN S.m)[k] : Int) ≤ stamp <;> simp [e]
theorem openTo_pre (S : SSt) (stamp : Int) (k m : Nat) (h : k ≤ m) : openTo S stamp k <+: openTo S stamp m := by
  unfold openTo
  exact List.IsPrefix.filter _ (List.take_prefix_take_left (l := listN S.m) h)
theorem openFn_any (d s stamp : Int) (B : Nat) (w : World) (hB : w.cell? ⟨B, 0, none⟩ = some (.int .i64 stamp)) :
    Calls Tryd.prog 42 #[.agg #[.int .i64 d, .int .i64 s], .pointer (some ⟨B, 0, none⟩)] w fun e w' => e = .returned (.bool (decide (s ≤ stamp))) ∧ Keeps w w' := by
  have hlt := cell_lt hB
  go_enter Tryd.func42, Tryd.ntmps42
  go_wp2_with fail
  go_ret
  exact ⟨rfl, Keeps.alloc _ _⟩
set_option maxHeartbeats 400000 in
theorem suchS_any (q0 : Option Addr) (f0 : Fn) (c0 d0 : Array Value) (q f : Value) (w : World) (hq : q = .pointer q0) (hf : f = .func f0 c0 d0) :
    Calls Tryd.prog 41 #[q, f] w fun e w' => e = .returned (.func (.func 51) #[] #[.pointer (some ⟨w.heap.size, 0, none⟩), .pointer (some ⟨w.heap.size + 1, 0, none⟩)]) ∧ (w.alloc (.cells #[q] 33)).alloc (.cells #[f] 86) = w' := by
  subst hq hf
  go_enter Tryd.func41, Tryd.ntmps41
  go_wp2
  go_ret
  exact ⟨rfl, rfl⟩
abbrev openFn (B : Nat) : Value := .func (.func 42) #[] #[.pointer (some ⟨B, 0, none⟩)]

set_option maxRecDepth 100000 in
set_option maxHeartbeats 2000000 in
/-- **such's function.** -/
theorem such1S_in (l B1 B2 B3 n₀ O p : Nat) (S : SSt) (stamp : Int) (J Jx : List Nat → World → Prop) (W : World)
    (hY : ∀ pre x W1, J pre W1 → pre.length < (openTo S stamp (listN S.m).length).length → YieldAt Fence.wide 7 Tryd.prog l #[.int .i64 (x : Nat)] W1 fun e W' =>
      (e = .returned (.bool true) ∧ J (pre ++ [x]) W' ∧ KeepC n₀ O W1 W') ∨ (e = .returned (.bool false) ∧ Jx (pre ++ [x]) W'))
    (hJk : ∀ pre W1 W2, W.heap.size ≤ W1.heap.size → J pre W1 → Keeps W1 W2 → J pre W2)
    (hB1 : Boxed W B1 33 (.pointer (some ⟨p, 0, none⟩))) (hB2 : Boxed W B2 86 (openFn B3)) (hB3 : Boxed W B3 3 (.int .i64 stamp))
    (ho1 : B1 ≠ O) (ho2 : B2 ≠ O) (ho3 : B3 ≠ O) (hpO : p ≠ O) (hOl : O < W.heap.size) (hn : n₀ ≤ W.heap.size) (hS : SectAt W p S) (hT : TabAt W) (h0 : J [] W) :
    CallsIn Fence.wide 8 Tryd.prog 51 #[.func (.yield l) #[] #[], .pointer (some ⟨B1, 0, none⟩), .pointer (some ⟨B2, 0, none⟩)] W fun e W' => (∃ v, e = .returned v) ∧
      ((∃ ys, ys = openTo S stamp (listN S.m).length ∧ J ys W') ∨ (∃ pre, pre <+: openTo S stamp (listN S.m).length ∧ Jx pre W')) := by
  have hc1 := hB1.cell
  have hl64 := listN_len S.m
  refine callsIn_of_wp Tryd.func51 rfl trivial ?_ rfl
  simp only [Tryd.ntmps51, List.size_toArray, List.length_cons, List.length_nil, Nat.reduceAdd, Nat.reduceSub, Array.replicate_succ, Array.replicate_zero, List.push_toArray, List.append_toArray, List.nil_append, List.cons_append]
  gi_wp2
  refine ⟨trivial, (callsIn_wide.2 (in_any hS)).mono ?_⟩
  rintro e w' ⟨rfl, rfl⟩
  gi_wp2
  refine ⟨trivial, (callsIn_wide.2 (list_any S.m W hS.ok.word hT)).mono ?_⟩
  rintro e W1 ⟨v, rfl, hrow, hK⟩
  have hSl := slc_of_row hrow
  have hsep : ∀ b off l c, v = .slice (some ⟨b, off, none⟩) l c → b ≠ O := fun b off l c e => by have := slc_row_lt hrow b off l c e; omega
  obtain ⟨q, cap, rfl, hl, hc, _, _⟩ := id hSl
  rw [natInts_len] at hl
  unfold maxLen at hc
  have hKC : KeepC n₀ O W W1 := KeepC.of_keeps hK hn
  have hS1 := hS.keeps hK
  have hJ1 := hJk [] W W1 (Nat.le_refl _) h0 hK
  have hs1 := hK.size
  have hgo : ∀ k, (hk : k < (listN S.m).length) → (listN S.m)[k] < 64 := fun k hk => ((mem_listN S.m _).1 (List.getElem_mem hk)).1
  have hsucc := fun k hk => openTo_succ S stamp k hk
  have hpre := fun k hk => openTo_pre S stamp k (listN S.m).length hk
  have hzero : openTo S stamp 0 = [] := rfl
  rw [natInts_len]
  replace hsep := Lib.hid hsep
  replace hSl := Lib.hid hSl
  replace hgo := Lib.hid hgo
  replace hsucc := Lib.hid hsucc
  replace hpre := Lib.hid hpre
  replace hzero := Lib.hid hzero
  replace hS1 := Lib.hid hS1
  replace hB1 := Lib.hid (hKC.boxed hB1 ho1)
  replace hB2 := Lib.hid (hKC.boxed hB2 ho2)
  replace hB3 := Lib.hid (hKC.boxed hB3 ho3)
  replace hY := Lib.hid hY
  replace hJk := Lib.hid hJk
  clear hrow hK hKC hc1 hS hT h0
  gi_wp2
  gi_loopw [10] (fun i wr => ∃ k : Nat, k ≤ (listN S.m).length ∧ i = .int .i64 k ∧ KeepC n₀ O W1 wr ∧ J (openTo S stamp k) wr) (fun i _ => (listN S.m).length - (intOf i).toNat)
  case atStart => exact ⟨0, Nat.zero_le _, rfl, KeepC.refl _ _ _, by rw [hzero.out]; exact hJ1⟩
  case round =>
    clear hJ1
    obtain ⟨k, hk, rfl, hKC, hJs⟩ := hrel
    by_cases hlt : k < (listN S.m).length
    · have hr64 := hgo.out k hlt
      have hSr : SectAt wr p S := ⟨hKC.blk hS1.out.hdr hpO, hS1.out.ok⟩
      obtain ⟨q', cap', hv', _, _, _, hcell⟩ := hKC.slc hSl.out hsep.out
      obtain ⟨b, off, hp, hcr⟩ := hcell k (by rw [natInts_len]; exact hlt)
      have hq : q = some ⟨b, off, none⟩ := by simp at hv'; rw [hv'.1]; exact hp
      subst hq
      replace hcr : wr.cell? ⟨b, off + k, none⟩ = some (.int .i64 ((listN S.m)[k] : Nat)) := by rw [hcr]; simp [natInts, List.getD, hlt]
      have hsc := hsucc.out k hlt
      have hpr := hpre.out (k + 1) hlt
      clear hcell hv' hp
      generalize (listN S.m)[k] = r at *
      have c1 := (hKC.boxed hB1.out ho1).cell
      have c2 := (hKC.boxed hB2.out ho2).cell
      have c3 := (hKC.boxed hB3.out ho3).cell
      have cd := hSr.cDep r hr64
      have cs := hSr.cSin r hr64
      have hwsz := hKC.below.size
      have x1 := After.cell c1
      have x2 := After.cell c2
      have xd := After.cell cd
      have xs := After.cell cs
      have hfn : ∀ x : After wr, Calls Tryd.prog 42 #[.agg #[.int .i64 (S.dep r : Nat), .int .i64 (S.sin r : Nat)], .pointer (some ⟨B3, 0, none⟩)] x.now fun e w' => e = .returned (.bool (decide ((S.sin r : Int) ≤ stamp))) ∧ ∃ y : After wr, w' = y.now := fun x => After.call x (openFn_any _ _ stamp B3 x.now (After.cell c3 x))
      have r1 : (r : Int) < 64 := by omega
      have r2 : (0 : Int) ≤ (r : Int) := by omega
      clear c2 c3 cd cs hSr
      by_cases hok : (S.sin r : Int) ≤ stamp
      · rw [if_pos hok] at hsc
        rw [decide_eq_true hok] at hfn
        have hplen : (openTo S stamp k).length < (openTo S stamp (listN S.m).length).length := by
          have := hpr.length_le
          rw [hsc, List.length_append, List.length_singleton] at this
          omega
        have hy0 := fun (W2 : World) (hk2 : Keeps wr W2) => hY.out (openTo S stamp k) r W2 (hJk.out _ wr W2 (by omega) hJs hk2) hplen
        rw [hsc] at hpr
        replace hsc := Lib.hid hsc
        replace hpr := Lib.hid hpr
        replace hfn := Lib.hid hfn
        replace hy0 := Lib.hid hy0
        replace hKC := Lib.hid hKC
        generalize S.dep r = d at *
        generalize S.sin r = s at *
        clear hok hplen
        gi_wp2
        refine regionIn_after_tail (r := none) 11 (by kernel_rfl) (by kernel_rfl) (by kernel_rfl) ?_
        simp only [List.take_succ_cons, List.take_zero, List.drop_succ_cons, List.drop_zero]
        repeat go_big_quiet_step (with_reducible exact hfn.out _)
        refine wpQuiet_nil ?_
        rintro W2 ⟨⟨_, hk2⟩, rfl⟩
        obtain ⟨fn, tmps, assign, body, hy, hRd⟩ := hy0.out W2 hk2
        replace hk2 := Lib.hid hk2
        clear hfn x1 x2 xd xs c1 hcr
        gi_wp2
        refine hRd.mono ?_
        rintro e W3 (⟨rfl, hJ3, hk3⟩ | ⟨rfl, hJx3⟩)
        · gi_wp2
          go_roundw
          case rel => exact ⟨k + 1, by omega, by go_num, (hKC.out.trans (KeepC.of_keeps hk2.out (by omega))).trans hk3, by rw [hsc.out]; exact hJ3⟩
          case measure => (simp [intOf]; try omega)
        · gi_wp2
          refine bodyPost_ret (results_none rfl _ _ _) rfl ?_
          exact ⟨⟨_, rfl⟩, .inr ⟨openTo S stamp k ++ [r], hpr.out, hJx3⟩⟩
      · rw [if_neg hok, List.append_nil] at hsc
        rw [decide_eq_false hok] at hfn
        have hJ2 := fun (W2 : World) (hk2 : Keeps wr W2) => hJk.out _ wr W2 (by omega) hJs hk2
        replace hJ2 := Lib.hid hJ2
        replace hsc := Lib.hid hsc
        replace hfn := Lib.hid hfn
        replace hKC := Lib.hid hKC
        generalize S.dep r = d at *
        generalize S.sin r = s at *
        clear hok hpr hJs
        gi_wp2
        refine regionIn_after (r := none) (by kernel_rfl) (by kernel_rfl) (by kernel_rfl) ?_
        repeat go_big_quiet_step (with_reducible exact hfn.out _)
        refine wpQuiet_nil ?_
        rintro W2 ⟨⟨_, hk2⟩, rfl⟩
        replace hk2 := Lib.hid hk2
        clear hfn x1 x2 xd xs c1 hcr
        gi_wp2
        go_roundw
        case rel => exact ⟨k + 1, by omega, by go_num, hKC.out.trans (KeepC.of_keeps hk2.out (by omega)), by rw [hsc.out]; exact hJ2.out W2 hk2.out⟩
        case measure => (simp [intOf]; try omega)
    · obtain rfl : k = (listN S.m).length := by omega
      gi_wp2
      go_end0
      exact ⟨⟨_, rfl⟩, .inl ⟨_, rfl, hJs⟩⟩

/-- Whose sections are open up to a stamp, as a word. -/
def openN (S : SSt) (stamp : Int) : Nat := withN 0 ((openTo S stamp (listN S.m).length).map fun (k : Nat) => (k : Int))
def castL (l : List Nat) : List Int := l.map fun (k : Nat) => (k : Int)
theorem castL_snoc (l : List Nat) (x : Nat) : castL (l ++ [x]) = castL l ++ [(x : Int)] := by simp [castL]
theorem withN_snoc (m : Nat) (l : List Int) (x : Int) : withN m (l ++ [x]) = withN (withN m l) [x] := by simp [withN, List.foldl_append]
theorem suchS_stops (B1 B2 B3 n₀ O p : Nat) (S : SSt) (stamp : Int) (w : World) (hB1 : Boxed w B1 33 (.pointer (some ⟨p, 0, none⟩)))
    (hB2 : Boxed w B2 86 (openFn B3)) (hB3 : Boxed w B3 3 (.int .i64 stamp)) (ho1 : B1 ≠ O) (ho2 : B2 ≠ O) (ho3 : B3 ≠ O) (hpO : p ≠ O) (hOl : O < w.heap.size) (hn : n₀ ≤ w.heap.size) (hS : SectAt w p S) (hT : TabAt w) :
    SeqStopsK Fence.wide 8 Tryd.prog 51 #[.pointer (some ⟨B1, 0, none⟩), .pointer (some ⟨B2, 0, none⟩)] (fun x : Nat => #[Value.int .i64 (x : Int)]) (KeepC n₀ O) (fun ys => ys = openTo S stamp (listN S.m).length) (fun pre => pre <+: openTo S stamp (listN S.m).length) (openTo S stamp (listN S.m).length).length w := fun l J Jx W hW hJ _ hY h0 =>
  such1S_in l B1 B2 B3 n₀ O p S stamp J Jx W hY (fun pre W1 W2 _ h hk => hJ pre W1 _ none h (keeps_grown hk) (fun r e => by cases e))
    ((hW.block B1 hB1.lt).trans hB1) ((hW.block B2 hB2.lt).trans hB2) ((hW.block B3 hB3.lt).trans hB3) ho1 ho2 ho3 hpO (Nat.lt_of_lt_of_le hOl hW.size) (Nat.le_trans hn hW.size) (hS.keeps hW) (hT.keeps hW) h0

set_option maxRecDepth 100000 in
set_option maxHeartbeats 2000000 in
theorem open_any {p : Nat} {S : SSt} {w : World} (h : SectAt w p S) (hT : TabAt w) (stamp : Int) :
    Calls Tryd.prog 26 #[.pointer (some ⟨p, 0, none⟩), .int .i64 stamp] w fun e w' => e = .returned (.int .u64 (openN S stamp : Nat)) ∧ Keeps w w' := by
  have hlt := h.hdr.lt
  refine (callsIn_wide (n := 9)).1 ?_
  refine callsIn_of_wp_marks Tryd.func26 rfl trivial ?_ rfl
  simp only [Tryd.ntmps26, List.size_toArray, List.length_cons, List.length_nil, Nat.reduceAdd, Nat.reduceSub, Array.replicate_succ, Array.replicate_zero, List.push_toArray, List.append_toArray, List.nil_append, List.cons_append]
  gi_wp2_with (refine ⟨trivial, ?_⟩; gi_at_call 41; refine (callsIn_wide.2 (suchS_any _ _ _ _ _ _ _ rfl rfl)).mono ?_; rintro e w' ⟨rfl, rfl⟩)
  have bN := Boxed.new w 3 (.int .i64 stamp)
  have bO := Boxed.new (w.alloc (.cells #[.int .i64 stamp] 3)) 28 (.int .u64 0)
  have bG := Boxed.new ((w.alloc (.cells #[.int .i64 stamp] 3)).alloc (.cells #[.int .u64 0] 28)) 33 (.pointer (some ⟨p, 0, none⟩))
  have bF := Boxed.new (((w.alloc (.cells #[.int .i64 stamp] 3)).alloc (.cells #[.int .u64 0] 28)).alloc (.cells #[.pointer (some ⟨p, 0, none⟩)] 33)) 86 (openFn w.heap.size)
  simp only [World.size_alloc] at bO bG bF
  have hB0 : Keeps w ((((w.alloc (.cells #[.int .i64 stamp] 3)).alloc (.cells #[.int .u64 0] 28)).alloc (.cells #[.pointer (some ⟨p, 0, none⟩)] 33)).alloc (.cells #[openFn w.heap.size] 86)) :=
    (((Keeps.alloc _ _).trans (Keeps.alloc _ _)).trans (Keeps.alloc _ _)).trans (Keeps.alloc _ _)
  refine iter_ruleC w (w.heap.size + 1) (gf := 51) (lb := #[.pointer (some ⟨w.heap.size + 1 + 1, 0, none⟩), .pointer (some ⟨w.heap.size + 1 + 1 + 1, 0, none⟩)]) rfl (enters_of Tryd.func51 (by kernel_rfl) rfl)
    (suchS_stops (w.heap.size + 1 + 1) (w.heap.size + 1 + 1 + 1) w.heap.size _ _ p S stamp _ (bG.alloc _) bF (((bN.alloc _).alloc _).alloc _) (by omega) (by omega) (by omega) (by omega) (by simp; try omega) (by simp; try omega) (h.keeps hB0) (hT.keeps hB0)) (Below.refl _ _) hB0 (fun _ => rfl)
    (fun pre W => Boxed W (w.heap.size + 1) 28 (.int .u64 (withN 0 (castL pre) : Nat)))
    (fun c pre W => False)
    (fun pre => Stays.boxed _ _ _ _)
    (fun c pre => Stays.pure _ _)
    ((bO.alloc _).alloc _)
    ?a1 ?assign ?body ?done ?stop
  case assign =>
    intro l x W K hK
    gi_wp2
    exact hK
  case body =>
    rintro l pre x W hb hlt hv
    have hc := hv.cell
    have hf := hv.frozen
    have hm : withN 0 (castL pre) < 18446744073709551616 := withN_lt _ _ (by decide)
    have hsz := hb.size
    have hvl := hv.lt
    have hz : Ints (W.alloc (.cells #[.int .i64 (x : Int)] 3)) (.slice (some ⟨W.heap.size, 0, none⟩) 1 1) [(x : Int)] := ints_new W 3 [(x : Int)] (by simp [maxLen])
    have hwith := with_any (withN 0 (castL pre)) _ _ _ hm hz
    rw [← withN_snoc, ← castL_snoc] at hwith
    replace hwith := Lib.hid hwith
    have hset := (hv.set (.int .u64 (withN 0 (castL (pre ++ [x])) : Nat))).alloc (.cells #[.int .i64 (x : Int)] 3)
    have hC : Chg (· = w.heap.size + 1) W ((W.setCell ⟨w.heap.size + 1, 0, none⟩ (.int .u64 (withN 0 (castL (pre ++ [x])) : Nat))).alloc (.cells #[.int .i64 (x : Int)] 3)) := Chg.trans (S := (· = w.heap.size + 1)) (Chg.setCell (S := (· = w.heap.size + 1)) _ _ rfl) (Chg.of_keeps (Keeps.alloc _ _))
    replace hset := Lib.hid hset
    replace hC := Lib.hid hC
    clear hm hz
    generalize hm2 : withN 0 (castL (pre ++ [x])) = m2 at *
    replace hm2 := Lib.hid hm2
    generalize withN 0 (castL pre) = m at *
    gi_wp2_with (refine ⟨trivial, ?_⟩; gi_at_call 43; refine (CallsIn.inRound l (callsIn_wide.2 hwith.out)).mono ?_; rintro e w' ⟨rfl, rfl⟩)
    have hbel : Below w.heap.size W ((W.setCell ⟨w.heap.size + 1, 0, none⟩ (.int .u64 (m2 : Nat))).alloc (.cells #[.int .i64 (x : Int)] 3)) := hC.out.below hsz (fun k hk => by omega)
    exact ⟨⟨((KeepsOthers.setCell _ _ _).trans (KeepsOthers.alloc _ _)).from _, hbel, by show Boxed _ _ _ (.int .u64 (withN 0 (castL (pre ++ [x])) : Nat)); rw [hm2.out]; exact hset.out⟩, hbel, fun k o hk ho _ => by
      rw [hC.out.block k ((Array.getElem?_eq_some_iff.1 ho).1) hk]; exact ho⟩
  case done =>
    rintro D W hD hb hv hK
    have hc := hv.cell
    gi_wp2
    refine ret_marks hK rfl (v := .int .u64 (openN S stamp : Nat)) ?_ ⟨rfl, ?_⟩
    · exact results_tmp (fn := Tryd.f26) rfl _ _ _
    · exact Below.putObj hb _ (by simp at hD; omega) hK
  case stop =>
    rintro D c pre W hD hpre hb h hK
    exact h.elim
end Go.Proofs.YtpncnddlmlciaaaDoor
