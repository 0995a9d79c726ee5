/- WorkPlays: do: the walk. -/
import Derived.Test.YtcggbfpangnllaaLaw27e
namespace Go.Proofs.Ytcggbfpangnllaa
open Go.RowKit i64

section
variable {w W W' W0 : World} {k p rb cap n : Nat} {pp bb : Nat → Nat} {s s' : WS} {Z : Nat → Prop} {vq vr va uq ur ua : Value}
/-- The result's block is written. -/
theorem DI.out {R : Nat} (h : DI w k p rb cap n pp bb (fun b => Z b ∨ b = R) uq ur ua s W) (hR : ¬ FW k p rb n pp bb R) (hw : w.heap.size ≤ R) (hfw : ∀ b, FW k p rb n pp bb b → Z b) (cs : Array Value) : DI w k p rb cap n pp bb Z uq ur ua s (W.setRow R cs) := by
  have hC : Chg (· = R) W (W.setRow R cs) := Chg.setRow _ rfl
  refine ⟨h.wi.far hC (fun b hb => by subst hb; exact ⟨fun hf => hR (.inl hf), fun e => hR (.inr e), hw⟩), h.ok, (h.rw.chg hC fun b hb => .inr hb).more fun b hb => .inl (.inl hb), fun b hb => Nat.lt_of_lt_of_le (h.low b (.inl hb)) hC.size, hfw⟩
/-- The boxes of the call: the works, the act, the result. -/
structure Bo (W0 : World) (B4 B5 R : Nat) (cs : List Value) (a : Act27) (W : World) : Prop where
  b4 : Blk W B4 57 cs
  b5 : Blk W B5 45 (aE27 a)
  r : ∃ old, Blk W R 57 old ∧ old.length = 36
  n4 : W0.heap.size ≤ B4
  n5 : W0.heap.size ≤ B5
  nr : W0.heap.size ≤ R
  n4r : B4 ≠ R
  n5r : B5 ≠ R
theorem Bo.kept {B4 B5 R : Nat} {cs : List Value} {a : Act27} (h : Bo W0 B4 B5 R cs a W) (hk : Keeps W W') : Bo W0 B4 B5 R cs a W' := by
  obtain ⟨old, h1, h2⟩ := h.r
  exact ⟨h.b4.keeps hk, h.b5.keeps hk, ⟨old, h1.keeps hk, h2⟩, h.n4, h.n5, h.nr, h.n4r, h.n5r⟩
theorem Bo.chg {B4 B5 R : Nat} {cs : List Value} {a : Act27} {S : Nat → Prop} (h : Bo W0 B4 B5 R cs a W) (hc : Chg S W W') (hS : ∀ b, S b → b < W0.heap.size) : Bo W0 B4 B5 R cs a W' := by
  obtain ⟨old, h1, h2⟩ := h.r
  have h4 := h.n4
  have h5 := h.n5
  have hr := h.nr
  exact ⟨h.b4.chg hc (fun e => by have := hS _ e; omega), h.b5.chg hc (fun e => by have := hS _ e; omega), ⟨old, h1.chg hc (fun e => by have := hS _ e; omega), h2⟩, h.n4, h.n5, h.nr, h.n4r, h.n5r⟩
set_option maxRecDepth 100000 in
set_option maxHeartbeats 8000000 in
theorem do27_any (h : DI w k p rb cap n pp bb Z vq vr va s W) (a : Act27) : Calls Try.prog 21 #[.pointer (some ⟨k, 0, none⟩), rk n vq vr va s.on, .agg (aE27 a).toArray] W fun e W' =>
    ∃ s' uq ur ua, e = .returned (.tuple #[rk n uq ur ua s'.on, .bool true]) ∧ DI w k p rb cap n pp bb Z uq ur ua s' W' ∧ Chg (FW k p rb n pp bb) W W' := by
  obtain ⟨ki, id, cp, nn⟩ := a
  have hfW : ∀ b, FW k p rb n pp bb b → b < W.heap.size := fun b hb => h.low b (h.fw b hb)
  have hws := h.wi.keeps.size
  have hfw := h.fw
  have hwl := wkC_len n vq vr va s.on
  obtain ⟨B4, hB4⟩ : ∃ B4, B4 = W.heap.size := ⟨_, rfl⟩
  obtain ⟨B5, hB5⟩ : ∃ B5, B5 = W.heap.size + 1 := ⟨_, rfl⟩
  obtain ⟨R, hR⟩ : ∃ R, R = W.heap.size + 1 + 1 := ⟨_, rfl⟩
  have hKB : Keeps W (((W.alloc (.cells (wkC n vq vr va s.on).toArray 57)).alloc (.cells (aE27 (ki, id, cp, nn)).toArray 45)).alloc (.cells zW.toArray 57)) := (Keeps.alloc _ _).trans ((Keeps.alloc _ _).trans (Keeps.alloc _ _))
  have hBo : Bo W B4 B5 R (wkC n vq vr va s.on) (ki, id, cp, nn) (((W.alloc (.cells (wkC n vq vr va s.on).toArray 57)).alloc (.cells (aE27 (ki, id, cp, nn)).toArray 45)).alloc (.cells zW.toArray 57)) := by
    rw [hB4, hB5, hR]
    have b5 := Blk.new (W.alloc (.cells (wkC n vq vr va s.on).toArray 57)) 45 (aE27 (ki, id, cp, nn))
    have b6 := Blk.new ((W.alloc (.cells (wkC n vq vr va s.on).toArray 57)).alloc (.cells (aE27 (ki, id, cp, nn)).toArray 45)) 57 zW
    simp only [World.size_alloc] at b5 b6
    exact ⟨((Blk.new W _ _).alloc _).alloc _, b5.alloc _, ⟨zW, b6, by simp [zW]⟩, by omega, by omega, by omega, by omega, by omega⟩
  have hDI := h.more hKB (show W.heap.size ≤ R by omega) (by rw [hR]; simp)
  have hRf : ¬ FW k p rb n pp bb R := fun hf => by have := hfW R hf; omega
  have hRw : w.heap.size ≤ R := by omega
  obtain ⟨kd, hkd, ek⟩ := wrap_mod ki 8 (by decide)
  have hst : (fun W1 => Bo W B4 B5 R (wkC n vq vr va s.on) (ki, id, cp, nn) W1 ∧ DI w k p rb cap n pp bb (fun b => Z b ∨ b = R) vq vr va s W1 ∧ Keeps W W1) _ := ⟨hBo, hDI, hKB⟩
  unfold rk
  replace hst := Lib.hid hst
  replace hfW := Lib.hid hfW
  replace hfw := Lib.hid hfw
  replace hRf := Lib.hid hRf
  clear h hBo hDI hKB
  generalize hcs : wkC n vq vr va s.on = cs at *
  replace hcs := Lib.hid hcs
  go_enter Try.func21, Try.ntmps21
  go_upto_region 1 with (fail)
  refine wp_gen (fun W1 => Bo W B4 B5 R cs (ki, id, cp, nn) W1 ∧ DI w k p rb cap n pp bb (fun b => Z b ∨ b = R) vq vr va s W1 ∧ Keeps W W1) hst.out ?_
  rw [← hR, ← hB5, ← hB4]
  clear hst
  replace hB4 := Lib.hid hB4
  replace hB5 := Lib.hid hB5
  replace hR := Lib.hid hR
  rintro W1 ⟨hBo, hDI, hKW⟩
  have y0 : W1.cell? ⟨B5, 0, none⟩ = some (.int .i64 ki) := hBo.b5.cell 0 (by simp [aE27])
  have y1 : W1.cell? ⟨B5, 1, none⟩ = some (.int .i64 id) := hBo.b5.cell 1 (by simp [aE27])
  have y2 : W1.cell? ⟨B5, 2, none⟩ = some (.int .i64 cp) := hBo.b5.cell 2 (by simp [aE27])
  have y3 : W1.cell? ⟨B5, 3, none⟩ = some (.int .i64 nn) := hBo.b5.cell 3 (by simp [aE27])
  have hkd8 : kd = 0 ∨ (kd = 1 ∨ kd = 2) ∨ kd = 3 ∨ kd = 4 ∨ kd = 5 ∨ kd = 6 ∨ kd = 7 := by omega
  replace hKW := Lib.hid hKW
  rcases hkd8 with rfl | hkd2 | rfl | rfl | rfl | rfl | rfl
  · -- Set
    as_aux_lemma =>
    have hrf := hDI.rset id nn
    have hprog := fun W2 (hI : WI w k p rb cap n pp bb s W2) => hI.set id nn
    unfold rk at hrf
    rw [hcs.out] at hrf
    obtain ⟨er, her⟩ : ∃ er, er = (setW s id nn).2 := ⟨_, rfl⟩
    obtain ⟨s', hs'⟩ : ∃ s', s' = (setW s id nn).1 := ⟨_, rfl⟩
    simp only [← her, ← hs'] at hrf hprog
    replace hrf := Lib.hid hrf
    replace hprog := Lib.hid hprog
    replace her := Lib.hid her
    replace hs' := Lib.hid hs'
    have hBo' := Lib.hid hBo
    clear hDI
    go_wp2_with (first | (refine loadW27 hBo.b4 hwl rfl _ rfl rfl ?_))
    refine hrf.out.mono ?_
    rintro e W2 ⟨ua, rfl, hDN, hK2⟩
    have hone2 := wkC_one (n := n) (on := s'.on) hDN.rw.ones.1 hDN.rw.ones.2.1 hDN.rw.ones.2.2
    have hwl2 := wkC_len n vq vr ua s'.on
    have hBo2 := hBo'.out.kept hK2
    obtain ⟨N, hN⟩ : ∃ N, N = W2.heap.size := ⟨_, rfl⟩
    have hKN : Keeps W2 ((W2.alloc (.cells zW.toArray 57)).setRow N (wkC n vq vr ua s'.on).toArray) := Chg.keeps (S := (· = N)) (Chg.setRow _ rfl) (Keeps.alloc _ _) (fun b hb e => by omega)
    have hbN : Blk ((W2.alloc (.cells zW.toArray 57)).setRow N (wkC n vq vr ua s'.on).toArray) N 57 (wkC n vq vr ua s'.on) := by rw [hN]; exact (Blk.new W2 _ zW).setRow _
    have hNW : W.heap.size ≤ N := by have := (hKW.out.trans hK2).size; omega
    have hNR : N ≠ R := by obtain ⟨_, h1, _⟩ := hBo2.r; have := h1.lt; omega
    have hst : (fun W3 => Bo W B4 B5 R cs (ki, id, cp, nn) W3 ∧ DN w k p rb cap n pp bb (fun b => Z b ∨ b = R) vq vr ua s s' W3 ∧ Keeps W W3 ∧ Blk W3 N 57 (wkC n vq vr ua s'.on)) _ := ⟨hBo2.kept hKN, hDN.kept hKN, (hKW.out.trans hK2).trans hKN, hbN⟩
    replace hst := Lib.hid hst
    replace hone2 := Lib.hid hone2
    clear hDN hK2 hKN hbN hBo2 hBo hBo' hKW y0 y1 y2 y3 hrf
    generalize hcs2 : wkC n vq vr ua s'.on = cs2 at *
    replace hcs2 := Lib.hid hcs2
    go_upto_region 4 with (refine storeW27 ⟨zW, Blk.new W2 _ zW, rfl⟩ hwl2 hone2.out rfl _ _ rfl rfl rfl rfl ?_)
    rw [← hN] at *
    refine wp_gen (fun W3 => Bo W B4 B5 R cs (ki, id, cp, nn) W3 ∧ DN w k p rb cap n pp bb (fun b => Z b ∨ b = R) vq vr ua s s' W3 ∧ Keeps W W3 ∧ Blk W3 N 57 cs2) hst.out ?_
    clear hst
    rintro W3 ⟨hBo, hDN, hKW, hbN⟩
    obtain ⟨C0, hC0⟩ : ∃ C0 : World → Prop, C0 = fun w' => Blk w' N 57 cs2 ∧ Blk w' B5 45 (aE27 (ki, id, cp, nn)) := ⟨_, rfl⟩
    have hC0i : ∀ w', Blk w' N 57 cs2 → Blk w' B5 45 (aE27 (ki, id, cp, nn)) → C0 w' := fun w' h1 h2 => by rw [hC0]; exact ⟨h1, h2⟩
    have hC0x : ∀ w', C0 w' → Blk w' N 57 cs2 ∧ Blk w' B5 45 (aE27 (ki, id, cp, nn)) := fun w' h => by rw [hC0] at h; exact h
    have hCa : C0 W3.drew := hC0i _ (hbN.keeps (Keeps.drew _)) (hBo.b5.keeps (Keeps.drew _))
    have hbl : ∀ w', (∃ x : WorldIn C0, w' = x.now) → Blk w' N 57 cs2 := by rintro _ ⟨x, rfl⟩; exact (hC0x _ x.ok).1
    have hg1 : ∀ x : WorldIn C0, x.now.cell? ⟨B5, 1, none⟩ = some (.int .i64 id) := fun x => (hC0x _ x.ok).2.cell 1 (by simp [aE27])
    have hg3 : ∀ x : WorldIn C0, x.now.cell? ⟨B5, 3, none⟩ = some (.int .i64 nn) := fun x => (hC0x _ x.ok).2.cell 3 (by simp [aE27])
    haveI : Nonempty (WorldIn C0) := ⟨⟨_, hCa⟩⟩
    have hp2 := hprog.out W3.drew (hDN.kept (Keeps.drew W3)).wi
    have hDN2 := hDN.kept (Keeps.drew W3)
    have hBo2 := hBo.kept (Keeps.drew W3)
    have hKW2 := hKW.trans (Keeps.drew W3)
    have hbN2 := hbN.keeps (Keeps.drew W3)
    replace hbl := Lib.hid hbl
    replace hp2 := Lib.hid hp2
    replace hDN2 := Lib.hid hDN2
    replace hBo2 := Lib.hid hBo2
    replace hKW2 := Lib.hid hKW2
    replace hbN2 := Lib.hid hbN2
    replace hC0i := Lib.hid hC0i
    clear hC0 hC0x hBo hDN hKW hbN hprog
    refine region_seqC [6, 9] C0 (by kernel_rfl) (by kernel_rfl) hCa ?_
    refine wpSeq_reads 6 (by rfl) ?_
    simp only [List.take_succ_cons, List.take_zero, List.drop_succ_cons, List.drop_zero]
    refine quietRow hbl.out rfl 57 _ rfl rfl _ Try.underlying57 rfl 36 sizeW27 hwl2 ?_
    go_frame
    iterate 5 go_big_quiet_step (fail)
    refine wpQuiet_nil ?_
    refine wpSeq_call (by rfl) ?_
    go_wp2_with fail
    refine hp2.out.mono ?_
    rintro e W4 ⟨rfl, hI, hC⟩
    have hDI4 := hDN2.out.done hI hC
    have hBo4 := hBo2.out.chg hC hfW.out
    have hbN4 := hbN2.out.chg hC (fun e => by have := hfW.out _ e; omega)
    have hC4 := hC0i.out _ hbN4 hBo4.b5
    have hb5f := hBo4.b5.otherRow (b' := R) (by have := hBo4.n5r; omega) cs2.toArray
    have hC5 := hC0i.out _ (hbN4.otherRow hNR cs2.toArray) hb5f
    have hChg := (Chg.of_keeps (S := FW k p rb n pp bb) hKW2.out).trans hC
    have hfinD := hDI4.out hRf.out hRw hfw.out cs2.toArray
    have hfinB : Blk (W4.setRow R cs2.toArray) R 57 cs2 := by obtain ⟨_, h1, _⟩ := hBo4.r; exact h1.setRow _
    have hfinC : Chg (FW k p rb n pp bb) W (W4.setRow R cs2.toArray) := (hChg.mono (T := fun b => FW k p rb n pp bb b ∨ b = R) fun _ _ hs => .inl hs).trans (Chg.setRow _ (.inr rfl)) |>.mono fun b hb hs => hs.elim (fun h => h) fun e => by have := hR.out; omega
    have hr4 := hBo4.r
    replace hr4 := Lib.hid hr4
    replace hfinD := Lib.hid hfinD
    replace hfinB := Lib.hid hfinB
    replace hfinC := Lib.hid hfinC
    replace hC5 := Lib.hid hC5
    clear hI hC hDI4 hBo4 hbN4 hb5f hChg hp2 hDN2 hBo2 hKW2 hbN2
    go_wp2_with fail
    refine seq_onC hC4 ?_
    refine wpSeq_reads 2 (by rfl) ?_
    simp only [List.take_succ_cons, List.take_zero, List.drop_succ_cons, List.drop_zero]
    iterate 2 go_big_quiet_step (fail)
    refine wpQuiet_nil ?_
    refine wpSeq_call (by rfl) ?_
    refine storeW27 hr4.out hwl2 hone2.out rfl _ _ rfl rfl rfl rfl ?_
    refine wpList_nil ?_
    refine seq_onC hC5.out ?_
    refine wpSeq_reads 1 (by rfl) ?_
    simp only [List.take_succ_cons, List.take_zero, List.drop_succ_cons, List.drop_zero]
    iterate 1 go_big_quiet_step (fail)
    refine wpQuiet_nil ?_
    refine wpSeq_nil ?_
    go_wp2_with fail
    exact bodyPost_ret (results_row_slot rfl _ hfinB.out rfl _ Try.underlying57 rfl 36 sizeW27 hwl2) rfl ⟨s', _, _, ua, by (rw [hcs2.out]; simp), hfinD.out, hfinC.out⟩
  · -- Post
    rcases hkd2 with rfl | rfl
    all_goals
      have hrf := hDI.rpost id cp
      have hprog := fun W2 (hI : WI w k p rb cap n pp bb s W2) => hI.post id cp
      unfold rk at hrf
      rw [hcs.out] at hrf
      obtain ⟨er, her⟩ : ∃ er, er = (postW n s id cp).2 := ⟨_, rfl⟩
      obtain ⟨s', hs'⟩ : ∃ s', s' = (postW n s id cp).1 := ⟨_, rfl⟩
      simp only [← her, ← hs'] at hrf hprog
      replace hrf := Lib.hid hrf
      replace hprog := Lib.hid hprog
      replace her := Lib.hid her
      replace hs' := Lib.hid hs'
      have hBo' := Lib.hid hBo
      clear hDI
      go_wp2_with (first | (refine loadW27 hBo.b4 hwl rfl _ rfl rfl ?_))
      refine hrf.out.mono ?_
      rintro e W2 ⟨uq, ur, ua, rfl, hDN, hK2⟩
      have hone2 := wkC_one (n := n) (on := s'.on) hDN.rw.ones.1 hDN.rw.ones.2.1 hDN.rw.ones.2.2
      have hwl2 := wkC_len n uq ur ua s'.on
      have hBo2 := hBo'.out.kept hK2
      obtain ⟨N, hN⟩ : ∃ N, N = W2.heap.size := ⟨_, rfl⟩
      have hKN : Keeps W2 ((W2.alloc (.cells zW.toArray 57)).setRow N (wkC n uq ur ua s'.on).toArray) := Chg.keeps (S := (· = N)) (Chg.setRow _ rfl) (Keeps.alloc _ _) (fun b hb e => by omega)
      have hbN : Blk ((W2.alloc (.cells zW.toArray 57)).setRow N (wkC n uq ur ua s'.on).toArray) N 57 (wkC n uq ur ua s'.on) := by rw [hN]; exact (Blk.new W2 _ zW).setRow _
      have hNW : W.heap.size ≤ N := by have := (hKW.out.trans hK2).size; omega
      have hNR : N ≠ R := by obtain ⟨_, h1, _⟩ := hBo2.r; have := h1.lt; omega
      have hst : (fun W3 => Bo W B4 B5 R cs (ki, id, cp, nn) W3 ∧ DN w k p rb cap n pp bb (fun b => Z b ∨ b = R) uq ur ua s s' W3 ∧ Keeps W W3 ∧ Blk W3 N 57 (wkC n uq ur ua s'.on)) _ := ⟨hBo2.kept hKN, hDN.kept hKN, (hKW.out.trans hK2).trans hKN, hbN⟩
      replace hst := Lib.hid hst
      replace hone2 := Lib.hid hone2
      clear hDN hK2 hKN hbN hBo2 hBo hBo' hKW y0 y1 y2 y3 hrf
      generalize hcs2 : wkC n uq ur ua s'.on = cs2 at *
      replace hcs2 := Lib.hid hcs2
      go_upto_region 8 with (refine storeW27 ⟨zW, Blk.new W2 _ zW, rfl⟩ hwl2 hone2.out rfl _ _ rfl rfl rfl rfl ?_)
      rw [← hN] at *
      refine wp_gen (fun W3 => Bo W B4 B5 R cs (ki, id, cp, nn) W3 ∧ DN w k p rb cap n pp bb (fun b => Z b ∨ b = R) uq ur ua s s' W3 ∧ Keeps W W3 ∧ Blk W3 N 57 cs2) hst.out ?_
      clear hst
      rintro W3 ⟨hBo, hDN, hKW, hbN⟩
      obtain ⟨C0, hC0⟩ : ∃ C0 : World → Prop, C0 = fun w' => Blk w' N 57 cs2 ∧ Blk w' B5 45 (aE27 (ki, id, cp, nn)) := ⟨_, rfl⟩
      have hC0i : ∀ w', Blk w' N 57 cs2 → Blk w' B5 45 (aE27 (ki, id, cp, nn)) → C0 w' := fun w' h1 h2 => by rw [hC0]; exact ⟨h1, h2⟩
      have hC0x : ∀ w', C0 w' → Blk w' N 57 cs2 ∧ Blk w' B5 45 (aE27 (ki, id, cp, nn)) := fun w' h => by rw [hC0] at h; exact h
      have hCa : C0 W3.drew := hC0i _ (hbN.keeps (Keeps.drew _)) (hBo.b5.keeps (Keeps.drew _))
      have hbl : ∀ w', (∃ x : WorldIn C0, w' = x.now) → Blk w' N 57 cs2 := by rintro _ ⟨x, rfl⟩; exact (hC0x _ x.ok).1
      have hg1 : ∀ x : WorldIn C0, x.now.cell? ⟨B5, 1, none⟩ = some (.int .i64 id) := fun x => (hC0x _ x.ok).2.cell 1 (by simp [aE27])
      have hg2 : ∀ x : WorldIn C0, x.now.cell? ⟨B5, 2, none⟩ = some (.int .i64 cp) := fun x => (hC0x _ x.ok).2.cell 2 (by simp [aE27])
      haveI : Nonempty (WorldIn C0) := ⟨⟨_, hCa⟩⟩
      have hp2 := hprog.out W3.drew (hDN.kept (Keeps.drew W3)).wi
      have hDN2 := hDN.kept (Keeps.drew W3)
      have hBo2 := hBo.kept (Keeps.drew W3)
      have hKW2 := hKW.trans (Keeps.drew W3)
      have hbN2 := hbN.keeps (Keeps.drew W3)
      replace hbl := Lib.hid hbl
      replace hp2 := Lib.hid hp2
      replace hDN2 := Lib.hid hDN2
      replace hBo2 := Lib.hid hBo2
      replace hKW2 := Lib.hid hKW2
      replace hbN2 := Lib.hid hbN2
      replace hC0i := Lib.hid hC0i
      clear hC0 hC0x hBo hDN hKW hbN hprog
      refine region_seqC [6, 9] C0 (by kernel_rfl) (by kernel_rfl) hCa ?_
      refine wpSeq_reads 6 (by rfl) ?_
      simp only [List.take_succ_cons, List.take_zero, List.drop_succ_cons, List.drop_zero]
      refine quietRow hbl.out rfl 57 _ rfl rfl _ Try.underlying57 rfl 36 sizeW27 hwl2 ?_
      go_frame
      iterate 5 go_big_quiet_step (fail)
      refine wpQuiet_nil ?_
      refine wpSeq_call (by rfl) ?_
      go_wp2_with fail
      refine hp2.out.mono ?_
      rintro e W4 ⟨rfl, hI, hC⟩
      have hDI4 := hDN2.out.done hI hC
      have hBo4 := hBo2.out.chg hC hfW.out
      have hbN4 := hbN2.out.chg hC (fun e => by have := hfW.out _ e; omega)
      have hC4 := hC0i.out _ hbN4 hBo4.b5
      have hb5f := hBo4.b5.otherRow (b' := R) (by have := hBo4.n5r; omega) cs2.toArray
      have hC5 := hC0i.out _ (hbN4.otherRow hNR cs2.toArray) hb5f
      have hChg := (Chg.of_keeps (S := FW k p rb n pp bb) hKW2.out).trans hC
      have hfinD := hDI4.out hRf.out hRw hfw.out cs2.toArray
      have hfinB : Blk (W4.setRow R cs2.toArray) R 57 cs2 := by obtain ⟨_, h1, _⟩ := hBo4.r; exact h1.setRow _
      have hfinC : Chg (FW k p rb n pp bb) W (W4.setRow R cs2.toArray) := (hChg.mono (T := fun b => FW k p rb n pp bb b ∨ b = R) fun _ _ hs => .inl hs).trans (Chg.setRow _ (.inr rfl)) |>.mono fun b hb hs => hs.elim (fun h => h) fun e => by have := hR.out; omega
      have hr4 := hBo4.r
      replace hr4 := Lib.hid hr4
      replace hfinD := Lib.hid hfinD
      replace hfinB := Lib.hid hfinB
      replace hfinC := Lib.hid hfinC
      replace hC5 := Lib.hid hC5
      clear hI hC hDI4 hBo4 hbN4 hb5f hChg hp2 hDN2 hBo2 hKW2 hbN2
      go_wp2_with fail
      refine seq_onC hC4 ?_
      refine wpSeq_reads 2 (by rfl) ?_
      simp only [List.take_succ_cons, List.take_zero, List.drop_succ_cons, List.drop_zero]
      iterate 2 go_big_quiet_step (fail)
      refine wpQuiet_nil ?_
      refine wpSeq_call (by rfl) ?_
      refine storeW27 hr4.out hwl2 hone2.out rfl _ _ rfl rfl rfl rfl ?_
      refine wpList_nil ?_
      refine seq_onC hC5.out ?_
      refine wpSeq_reads 1 (by rfl) ?_
      simp only [List.take_succ_cons, List.take_zero, List.drop_succ_cons, List.drop_zero]
      iterate 1 go_big_quiet_step (fail)
      refine wpQuiet_nil ?_
      refine wpSeq_nil ?_
      go_wp2_with fail
      exact bodyPost_ret (results_row_slot rfl _ hfinB.out rfl _ Try.underlying57 rfl 36 sizeW27 hwl2) rfl ⟨s', _, _, ua, by (rw [hcs2.out]; simp), hfinD.out, hfinC.out⟩
  · -- Stop
    as_aux_lemma =>
    have hrf := hDI.rstop id
    have hprog := fun W2 (hI : WI w k p rb cap n pp bb s W2) => hI.stop id
    obtain ⟨was, hwas⟩ : ∃ was, was = (stopW s id).2.1 := ⟨_, rfl⟩
    obtain ⟨er, her⟩ : ∃ er, er = (stopW s id).2.2 := ⟨_, rfl⟩
    obtain ⟨s', hs'⟩ : ∃ s', s' = (stopW s id).1 := ⟨_, rfl⟩
    simp only [← hwas, ← her, ← hs'] at hrf hprog
    replace hwas := Lib.hid hwas
    replace her := Lib.hid her
    unfold rk at hrf
    rw [hcs.out] at hrf
    replace hrf := Lib.hid hrf
    replace hprog := Lib.hid hprog
    replace hs' := Lib.hid hs'
    have hBo' := Lib.hid hBo
    clear hDI
    go_wp2_with (first | (refine loadW27 hBo.b4 hwl rfl _ rfl rfl ?_))
    refine hrf.out.mono ?_
    rintro e W2 ⟨uq, ur, ua, rfl, hDN, hK2⟩
    have hone2 := wkC_one (n := n) (on := s'.on) hDN.rw.ones.1 hDN.rw.ones.2.1 hDN.rw.ones.2.2
    have hwl2 := wkC_len n uq ur ua s'.on
    have hBo2 := hBo'.out.kept hK2
    obtain ⟨N, hN⟩ : ∃ N, N = W2.heap.size := ⟨_, rfl⟩
    have hKN : Keeps W2 ((W2.alloc (.cells zW.toArray 57)).setRow N (wkC n uq ur ua s'.on).toArray) := Chg.keeps (S := (· = N)) (Chg.setRow _ rfl) (Keeps.alloc _ _) (fun b hb e => by omega)
    have hbN : Blk ((W2.alloc (.cells zW.toArray 57)).setRow N (wkC n uq ur ua s'.on).toArray) N 57 (wkC n uq ur ua s'.on) := by rw [hN]; exact (Blk.new W2 _ zW).setRow _
    have hNW : W.heap.size ≤ N := by have := (hKW.out.trans hK2).size; omega
    have hNR : N ≠ R := by obtain ⟨_, h1, _⟩ := hBo2.r; have := h1.lt; omega
    have hst : (fun W3 => Bo W B4 B5 R cs (ki, id, cp, nn) W3 ∧ DN w k p rb cap n pp bb (fun b => Z b ∨ b = R) uq ur ua s s' W3 ∧ Keeps W W3 ∧ Blk W3 N 57 (wkC n uq ur ua s'.on)) _ := ⟨hBo2.kept hKN, hDN.kept hKN, (hKW.out.trans hK2).trans hKN, hbN⟩
    replace hst := Lib.hid hst
    replace hone2 := Lib.hid hone2
    clear hDN hK2 hKN hbN hBo2 hBo hBo' hKW y0 y1 y2 y3 hrf
    generalize hcs2 : wkC n uq ur ua s'.on = cs2 at *
    replace hcs2 := Lib.hid hcs2
    go_upto_region 11 with (refine storeW27 ⟨zW, Blk.new W2 _ zW, rfl⟩ hwl2 hone2.out rfl _ _ rfl rfl rfl rfl ?_)
    rw [← hN] at *
    refine wp_gen (fun W3 => Bo W B4 B5 R cs (ki, id, cp, nn) W3 ∧ DN w k p rb cap n pp bb (fun b => Z b ∨ b = R) uq ur ua s s' W3 ∧ Keeps W W3 ∧ Blk W3 N 57 cs2) hst.out ?_
    clear hst
    rintro W3 ⟨hBo, hDN, hKW, hbN⟩
    have y1 : W3.cell? ⟨B5, 1, none⟩ = some (.int .i64 id) := hBo.b5.cell 1 (by simp [aE27])
    have y2 : W3.cell? ⟨B5, 2, none⟩ = some (.int .i64 cp) := hBo.b5.cell 2 (by simp [aE27])
    have y3 : W3.cell? ⟨B5, 3, none⟩ = some (.int .i64 nn) := hBo.b5.cell 3 (by simp [aE27])
    have hp2 := hprog.out W3 hDN.wi
    replace hp2 := Lib.hid hp2
    replace hDN := Lib.hid hDN
    replace hBo := Lib.hid hBo
    replace hKW := Lib.hid hKW
    replace hbN := Lib.hid hbN
    clear hprog
    go_wp2_with fail
    refine hp2.out.mono ?_
    rintro e W4 ⟨rfl, hI, hC⟩
    have hDI4 := hDN.out.done hI hC
    have hBo4 := hBo.out.chg hC hfW.out
    have hbN4 := hbN.out.chg hC (fun e => by have := hfW.out _ e; omega)
    have hChg := (Chg.of_keeps (S := FW k p rb n pp bb) hKW.out).trans hC
    have hfinD := hDI4.out hRf.out hRw hfw.out cs2.toArray
    have hfinB : Blk (W4.setRow R cs2.toArray) R 57 cs2 := by obtain ⟨_, h1, _⟩ := hBo4.r; exact h1.setRow _
    have hfinC : Chg (FW k p rb n pp bb) W (W4.setRow R cs2.toArray) := (hChg.mono (T := fun b => FW k p rb n pp bb b ∨ b = R) fun _ _ hs => .inl hs).trans (Chg.setRow _ (.inr rfl)) |>.mono fun b hb hs => hs.elim (fun h => h) fun e => by have := hR.out; omega
    have hr4 := hBo4.r
    replace hr4 := Lib.hid hr4
    replace hfinD := Lib.hid hfinD
    replace hfinB := Lib.hid hfinB
    replace hfinC := Lib.hid hfinC
    replace hbN4 := Lib.hid hbN4
    clear hI hC hDI4 hBo4 hChg hp2 hDN hBo hKW hbN y1 y2 y3
    go_wp2_with (first | (refine loadW27 hbN4.out hwl2 rfl _ rfl rfl ?_) | (refine storeW27 hr4.out hwl2 hone2.out rfl _ _ rfl rfl rfl rfl ?_))
    exact bodyPost_ret (results_row_slot rfl _ hfinB.out rfl _ Try.underlying57 rfl 36 sizeW27 hwl2) rfl ⟨s', _, _, ua, by (rw [hcs2.out]; simp), hfinD.out, hfinC.out⟩
  · -- Begin
    as_aux_lemma =>
    have hrf := hDI.rbegin cp nn
    have hprog := fun W2 (hI : WI w k p rb cap n pp bb s W2) => hI.begin cp nn
    obtain ⟨an, han⟩ : ∃ an, an = (beginW n s cp nn).2.1 := ⟨_, rfl⟩
    obtain ⟨bn, hbn⟩ : ∃ bn, bn = (beginW n s cp nn).2.2.1 := ⟨_, rfl⟩
    obtain ⟨er, her⟩ : ∃ er, er = (beginW n s cp nn).2.2.2 := ⟨_, rfl⟩
    obtain ⟨s', hs'⟩ : ∃ s', s' = (beginW n s cp nn).1 := ⟨_, rfl⟩
    simp only [← han, ← hbn, ← her, ← hs'] at hrf hprog
    replace han := Lib.hid han
    replace hbn := Lib.hid hbn
    replace her := Lib.hid her
    unfold rk at hrf
    rw [hcs.out] at hrf
    replace hrf := Lib.hid hrf
    replace hprog := Lib.hid hprog
    replace hs' := Lib.hid hs'
    have hBo' := Lib.hid hBo
    clear hDI
    go_wp2_with (first | (refine loadW27 hBo.b4 hwl rfl _ rfl rfl ?_))
    refine hrf.out.mono ?_
    rintro e W2 ⟨uq, ur, ua, rfl, hDN, hK2⟩
    have hone2 := wkC_one (n := n) (on := s'.on) hDN.rw.ones.1 hDN.rw.ones.2.1 hDN.rw.ones.2.2
    have hwl2 := wkC_len n uq ur ua s'.on
    have hBo2 := hBo'.out.kept hK2
    obtain ⟨N, hN⟩ : ∃ N, N = W2.heap.size := ⟨_, rfl⟩
    have hKN : Keeps W2 ((W2.alloc (.cells zW.toArray 57)).setRow N (wkC n uq ur ua s'.on).toArray) := Chg.keeps (S := (· = N)) (Chg.setRow _ rfl) (Keeps.alloc _ _) (fun b hb e => by omega)
    have hbN : Blk ((W2.alloc (.cells zW.toArray 57)).setRow N (wkC n uq ur ua s'.on).toArray) N 57 (wkC n uq ur ua s'.on) := by rw [hN]; exact (Blk.new W2 _ zW).setRow _
    have hNW : W.heap.size ≤ N := by have := (hKW.out.trans hK2).size; omega
    have hNR : N ≠ R := by obtain ⟨_, h1, _⟩ := hBo2.r; have := h1.lt; omega
    have hst : (fun W3 => Bo W B4 B5 R cs (ki, id, cp, nn) W3 ∧ DN w k p rb cap n pp bb (fun b => Z b ∨ b = R) uq ur ua s s' W3 ∧ Keeps W W3 ∧ Blk W3 N 57 (wkC n uq ur ua s'.on)) _ := ⟨hBo2.kept hKN, hDN.kept hKN, (hKW.out.trans hK2).trans hKN, hbN⟩
    replace hst := Lib.hid hst
    replace hone2 := Lib.hid hone2
    clear hDN hK2 hKN hbN hBo2 hBo hBo' hKW y0 y1 y2 y3 hrf
    generalize hcs2 : wkC n uq ur ua s'.on = cs2 at *
    replace hcs2 := Lib.hid hcs2
    go_upto_region 15 with (refine storeW27 ⟨zW, Blk.new W2 _ zW, rfl⟩ hwl2 hone2.out rfl _ _ rfl rfl rfl rfl ?_)
    rw [← hN] at *
    refine wp_gen (fun W3 => Bo W B4 B5 R cs (ki, id, cp, nn) W3 ∧ DN w k p rb cap n pp bb (fun b => Z b ∨ b = R) uq ur ua s s' W3 ∧ Keeps W W3 ∧ Blk W3 N 57 cs2) hst.out ?_
    clear hst
    rintro W3 ⟨hBo, hDN, hKW, hbN⟩
    have y1 : W3.cell? ⟨B5, 1, none⟩ = some (.int .i64 id) := hBo.b5.cell 1 (by simp [aE27])
    have y2 : W3.cell? ⟨B5, 2, none⟩ = some (.int .i64 cp) := hBo.b5.cell 2 (by simp [aE27])
    have y3 : W3.cell? ⟨B5, 3, none⟩ = some (.int .i64 nn) := hBo.b5.cell 3 (by simp [aE27])
    have hp2 := hprog.out W3 hDN.wi
    replace hp2 := Lib.hid hp2
    replace hDN := Lib.hid hDN
    replace hBo := Lib.hid hBo
    replace hKW := Lib.hid hKW
    replace hbN := Lib.hid hbN
    clear hprog
    go_wp2_with fail
    refine hp2.out.mono ?_
    rintro e W4 ⟨rfl, hI, hC⟩
    have hDI4 := hDN.out.done hI hC
    have hBo4 := hBo.out.chg hC hfW.out
    have hbN4 := hbN.out.chg hC (fun e => by have := hfW.out _ e; omega)
    have hChg := (Chg.of_keeps (S := FW k p rb n pp bb) hKW.out).trans hC
    have hfinD := hDI4.out hRf.out hRw hfw.out cs2.toArray
    have hfinB : Blk (W4.setRow R cs2.toArray) R 57 cs2 := by obtain ⟨_, h1, _⟩ := hBo4.r; exact h1.setRow _
    have hfinC : Chg (FW k p rb n pp bb) W (W4.setRow R cs2.toArray) := (hChg.mono (T := fun b => FW k p rb n pp bb b ∨ b = R) fun _ _ hs => .inl hs).trans (Chg.setRow _ (.inr rfl)) |>.mono fun b hb hs => hs.elim (fun h => h) fun e => by have := hR.out; omega
    have hr4 := hBo4.r
    replace hr4 := Lib.hid hr4
    replace hfinD := Lib.hid hfinD
    replace hfinB := Lib.hid hfinB
    replace hfinC := Lib.hid hfinC
    replace hbN4 := Lib.hid hbN4
    clear hI hC hDI4 hBo4 hChg hp2 hDN hBo hKW hbN y1 y2 y3
    go_wp2_with (first | (refine loadW27 hbN4.out hwl2 rfl _ rfl rfl ?_) | (refine storeW27 hr4.out hwl2 hone2.out rfl _ _ rfl rfl rfl rfl ?_))
    exact bodyPost_ret (results_row_slot rfl _ hfinB.out rfl _ Try.underlying57 rfl 36 sizeW27 hwl2) rfl ⟨s', _, _, ua, by (rw [hcs2.out]; simp), hfinD.out, hfinC.out⟩
  · -- End
    as_aux_lemma =>
    have hrf := hDI.rend nn
    have hprog := fun W2 (hI : WI w k p rb cap n pp bb s W2) => hI.end' nn
    obtain ⟨an, han⟩ : ∃ an, an = (endW s nn).2.1 := ⟨_, rfl⟩
    obtain ⟨er, her⟩ : ∃ er, er = (endW s nn).2.2 := ⟨_, rfl⟩
    obtain ⟨s', hs'⟩ : ∃ s', s' = (endW s nn).1 := ⟨_, rfl⟩
    simp only [← han, ← her, ← hs'] at hrf hprog
    replace han := Lib.hid han
    replace her := Lib.hid her
    unfold rk at hrf
    rw [hcs.out] at hrf
    replace hrf := Lib.hid hrf
    replace hprog := Lib.hid hprog
    replace hs' := Lib.hid hs'
    have hBo' := Lib.hid hBo
    clear hDI
    go_wp2_with (first | (refine loadW27 hBo.b4 hwl rfl _ rfl rfl ?_))
    refine hrf.out.mono ?_
    rintro e W2 ⟨uq, ur, ua, rfl, hDN, hK2⟩
    have hone2 := wkC_one (n := n) (on := s'.on) hDN.rw.ones.1 hDN.rw.ones.2.1 hDN.rw.ones.2.2
    have hwl2 := wkC_len n uq ur ua s'.on
    have hBo2 := hBo'.out.kept hK2
    obtain ⟨N, hN⟩ : ∃ N, N = W2.heap.size := ⟨_, rfl⟩
    have hKN : Keeps W2 ((W2.alloc (.cells zW.toArray 57)).setRow N (wkC n uq ur ua s'.on).toArray) := Chg.keeps (S := (· = N)) (Chg.setRow _ rfl) (Keeps.alloc _ _) (fun b hb e => by omega)
    have hbN : Blk ((W2.alloc (.cells zW.toArray 57)).setRow N (wkC n uq ur ua s'.on).toArray) N 57 (wkC n uq ur ua s'.on) := by rw [hN]; exact (Blk.new W2 _ zW).setRow _
    have hNW : W.heap.size ≤ N := by have := (hKW.out.trans hK2).size; omega
    have hNR : N ≠ R := by obtain ⟨_, h1, _⟩ := hBo2.r; have := h1.lt; omega
    have hst : (fun W3 => Bo W B4 B5 R cs (ki, id, cp, nn) W3 ∧ DN w k p rb cap n pp bb (fun b => Z b ∨ b = R) uq ur ua s s' W3 ∧ Keeps W W3 ∧ Blk W3 N 57 (wkC n uq ur ua s'.on)) _ := ⟨hBo2.kept hKN, hDN.kept hKN, (hKW.out.trans hK2).trans hKN, hbN⟩
    replace hst := Lib.hid hst
    replace hone2 := Lib.hid hone2
    clear hDN hK2 hKN hbN hBo2 hBo hBo' hKW y0 y1 y2 y3 hrf
    generalize hcs2 : wkC n uq ur ua s'.on = cs2 at *
    replace hcs2 := Lib.hid hcs2
    go_upto_region 19 with (refine storeW27 ⟨zW, Blk.new W2 _ zW, rfl⟩ hwl2 hone2.out rfl _ _ rfl rfl rfl rfl ?_)
    rw [← hN] at *
    refine wp_gen (fun W3 => Bo W B4 B5 R cs (ki, id, cp, nn) W3 ∧ DN w k p rb cap n pp bb (fun b => Z b ∨ b = R) uq ur ua s s' W3 ∧ Keeps W W3 ∧ Blk W3 N 57 cs2) hst.out ?_
    clear hst
    rintro W3 ⟨hBo, hDN, hKW, hbN⟩
    have y1 : W3.cell? ⟨B5, 1, none⟩ = some (.int .i64 id) := hBo.b5.cell 1 (by simp [aE27])
    have y2 : W3.cell? ⟨B5, 2, none⟩ = some (.int .i64 cp) := hBo.b5.cell 2 (by simp [aE27])
    have y3 : W3.cell? ⟨B5, 3, none⟩ = some (.int .i64 nn) := hBo.b5.cell 3 (by simp [aE27])
    have hp2 := hprog.out W3 hDN.wi
    replace hp2 := Lib.hid hp2
    replace hDN := Lib.hid hDN
    replace hBo := Lib.hid hBo
    replace hKW := Lib.hid hKW
    replace hbN := Lib.hid hbN
    clear hprog
    go_wp2_with fail
    refine hp2.out.mono ?_
    rintro e W4 ⟨rfl, hI, hC⟩
    have hDI4 := hDN.out.done hI hC
    have hBo4 := hBo.out.chg hC hfW.out
    have hbN4 := hbN.out.chg hC (fun e => by have := hfW.out _ e; omega)
    have hChg := (Chg.of_keeps (S := FW k p rb n pp bb) hKW.out).trans hC
    have hfinD := hDI4.out hRf.out hRw hfw.out cs2.toArray
    have hfinB : Blk (W4.setRow R cs2.toArray) R 57 cs2 := by obtain ⟨_, h1, _⟩ := hBo4.r; exact h1.setRow _
    have hfinC : Chg (FW k p rb n pp bb) W (W4.setRow R cs2.toArray) := (hChg.mono (T := fun b => FW k p rb n pp bb b ∨ b = R) fun _ _ hs => .inl hs).trans (Chg.setRow _ (.inr rfl)) |>.mono fun b hb hs => hs.elim (fun h => h) fun e => by have := hR.out; omega
    have hr4 := hBo4.r
    replace hr4 := Lib.hid hr4
    replace hfinD := Lib.hid hfinD
    replace hfinB := Lib.hid hfinB
    replace hfinC := Lib.hid hfinC
    replace hbN4 := Lib.hid hbN4
    clear hI hC hDI4 hBo4 hChg hp2 hDN hBo hKW hbN y1 y2 y3
    go_wp2_with (first | (refine loadW27 hbN4.out hwl2 rfl _ rfl rfl ?_) | (refine storeW27 hr4.out hwl2 hone2.out rfl _ _ rfl rfl rfl rfl ?_))
    exact bodyPost_ret (results_row_slot rfl _ hfinB.out rfl _ Try.underlying57 rfl 36 sizeW27 hwl2) rfl ⟨s', _, _, ua, by (rw [hcs2.out]; simp), hfinD.out, hfinC.out⟩
  · -- Shut
    as_aux_lemma =>
    have hrf := hDI.rshut id
    obtain ⟨hsh1, hsh2⟩ := hDI.ok.shut2 hDI.wi.pr.lens.1 id
    have hprog : ∀ W2, WI w k p rb cap n pp bb s W2 → (∀ b, FW k p rb n pp bb b → b < W2.heap.size) → ∀ b0, b0 = W2.heap.size → Calls Try.prog 17 #[.pointer (some ⟨k, 0, none⟩), .slice (some ⟨b0, 0, none⟩) 2 2] (W2.alloc (.cells #[.int .i64 id, .int .i64 id] 3)) fun e W' => e = .returned (.int .i64 ((shutL s [id, id]).2 : Nat)) ∧ WI w k p rb cap n pp bb (shutL s [id, id]).1 W' ∧ Chg (FW k p rb n pp bb) W2 W' := fun W2 hI hlo b0 hb0 => by
      subst hb0
      have hbl : Blk (W2.alloc (.cells #[.int .i64 id, .int .i64 id] 3)) W2.heap.size 3 ([id, id].map (Value.int .i64)) := Blk.new W2 3 [.int .i64 id, .int .i64 id]
      refine ((hI.kept (Keeps.alloc _ _)).shut (ids := [id, id]) (by simp) hbl (fun hf => by have := hlo _ (.inl hf); omega) (fun e => by have := hlo _ (.inr e); omega)).mono ?_
      rintro e W' ⟨he, h1, h2⟩
      exact ⟨he, h1, (Chg.of_keeps (Keeps.alloc _ _)).trans h2⟩
    rw [hsh1] at hprog
    obtain ⟨nn2, hnn2⟩ : ∃ nn2, nn2 = (shutL s [id, id]).2 := ⟨_, rfl⟩
    rw [← hnn2] at hprog hsh2
    obtain ⟨was, hwas⟩ : ∃ was, was = (shutR s id).2 := ⟨_, rfl⟩
    obtain ⟨s', hs'⟩ : ∃ s', s' = (shutR s id).1 := ⟨_, rfl⟩
    simp only [← hwas, ← hs'] at hrf hprog hsh2
    replace hsh2 := Lib.hid hsh2
    replace hwas := Lib.hid hwas
    replace hnn2 := Lib.hid hnn2
    clear hsh1
    unfold rk at hrf
    rw [hcs.out] at hrf
    replace hrf := Lib.hid hrf
    replace hprog := Lib.hid hprog
    replace hs' := Lib.hid hs'
    have hBo' := Lib.hid hBo
    clear hDI
    go_wp2_with (first | (refine loadW27 hBo.b4 hwl rfl _ rfl rfl ?_))
    refine hrf.out.mono ?_
    rintro e W2 ⟨uq, ur, ua, rfl, hDN, hK2⟩
    have hone2 := wkC_one (n := n) (on := s'.on) hDN.rw.ones.1 hDN.rw.ones.2.1 hDN.rw.ones.2.2
    have hwl2 := wkC_len n uq ur ua s'.on
    have hBo2 := hBo'.out.kept hK2
    obtain ⟨N, hN⟩ : ∃ N, N = W2.heap.size := ⟨_, rfl⟩
    have hKN : Keeps W2 ((W2.alloc (.cells zW.toArray 57)).setRow N (wkC n uq ur ua s'.on).toArray) := Chg.keeps (S := (· = N)) (Chg.setRow _ rfl) (Keeps.alloc _ _) (fun b hb e => by omega)
    have hbN : Blk ((W2.alloc (.cells zW.toArray 57)).setRow N (wkC n uq ur ua s'.on).toArray) N 57 (wkC n uq ur ua s'.on) := by rw [hN]; exact (Blk.new W2 _ zW).setRow _
    have hNW : W.heap.size ≤ N := by have := (hKW.out.trans hK2).size; omega
    have hNR : N ≠ R := by obtain ⟨_, h1, _⟩ := hBo2.r; have := h1.lt; omega
    have hst : (fun W3 => Bo W B4 B5 R cs (ki, id, cp, nn) W3 ∧ DN w k p rb cap n pp bb (fun b => Z b ∨ b = R) uq ur ua s s' W3 ∧ Keeps W W3 ∧ Blk W3 N 57 (wkC n uq ur ua s'.on)) _ := ⟨hBo2.kept hKN, hDN.kept hKN, (hKW.out.trans hK2).trans hKN, hbN⟩
    replace hst := Lib.hid hst
    replace hone2 := Lib.hid hone2
    clear hDN hK2 hKN hbN hBo2 hBo hBo' hKW y0 y1 y2 y3 hrf
    generalize hcs2 : wkC n uq ur ua s'.on = cs2 at *
    replace hcs2 := Lib.hid hcs2
    go_upto_region 23 with (refine storeW27 ⟨zW, Blk.new W2 _ zW, rfl⟩ hwl2 hone2.out rfl _ _ rfl rfl rfl rfl ?_)
    rw [← hN] at *
    refine wp_gen (fun W3 => Bo W B4 B5 R cs (ki, id, cp, nn) W3 ∧ DN w k p rb cap n pp bb (fun b => Z b ∨ b = R) uq ur ua s s' W3 ∧ Keeps W W3 ∧ Blk W3 N 57 cs2) hst.out ?_
    clear hst
    rintro W3 ⟨hBo, hDN, hKW, hbN⟩
    have y1 : W3.cell? ⟨B5, 1, none⟩ = some (.int .i64 id) := hBo.b5.cell 1 (by simp [aE27])
    have y2 : W3.cell? ⟨B5, 2, none⟩ = some (.int .i64 cp) := hBo.b5.cell 2 (by simp [aE27])
    have y3 : W3.cell? ⟨B5, 3, none⟩ = some (.int .i64 nn) := hBo.b5.cell 3 (by simp [aE27])
    have hp2 := hprog.out W3 hDN.wi (fun b hb => Nat.lt_of_lt_of_le (hfW.out b hb) hKW.size) _ rfl
    replace hp2 := Lib.hid hp2
    replace hDN := Lib.hid hDN
    replace hBo := Lib.hid hBo
    replace hKW := Lib.hid hKW
    replace hbN := Lib.hid hbN
    clear hprog
    go_wp2_with fail
    refine hp2.out.mono ?_
    rintro e W4 ⟨rfl, hI, hC⟩
    have hDI4 := hDN.out.done hI hC
    have hBo4 := hBo.out.chg hC hfW.out
    have hbN4 := hbN.out.chg hC (fun e => by have := hfW.out _ e; omega)
    have hChg := (Chg.of_keeps (S := FW k p rb n pp bb) hKW.out).trans hC
    have hfinD := hDI4.out hRf.out hRw hfw.out cs2.toArray
    have hfinB : Blk (W4.setRow R cs2.toArray) R 57 cs2 := by obtain ⟨_, h1, _⟩ := hBo4.r; exact h1.setRow _
    have hfinC : Chg (FW k p rb n pp bb) W (W4.setRow R cs2.toArray) := (hChg.mono (T := fun b => FW k p rb n pp bb b ∨ b = R) fun _ _ hs => .inl hs).trans (Chg.setRow _ (.inr rfl)) |>.mono fun b hb hs => hs.elim (fun h => h) fun e => by have := hR.out; omega
    have hr4 := hBo4.r
    replace hr4 := Lib.hid hr4
    replace hfinD := Lib.hid hfinD
    replace hfinB := Lib.hid hfinB
    replace hfinC := Lib.hid hfinC
    replace hbN4 := Lib.hid hbN4
    clear hI hC hDI4 hBo4 hChg hp2 hDN hBo hKW hbN y1 y2 y3
    rcases hsh2.out with ⟨ew, en⟩ | ⟨ew, en⟩
    all_goals
      rw [ew, en]
      go_wp2_with (first | (refine loadW27 hbN4.out hwl2 rfl _ rfl rfl ?_) | (refine storeW27 hr4.out hwl2 hone2.out rfl _ _ rfl rfl rfl rfl ?_))
      exact bodyPost_ret (results_row_slot rfl _ hfinB.out rfl _ Try.underlying57 rfl 36 sizeW27 hwl2) rfl ⟨s', _, _, ua, by (rw [hcs2.out]; simp), hfinD.out, hfinC.out⟩
  · -- Clear
    as_aux_lemma =>
    have hrf := hDI.rclear id
    have hprog := fun W2 (hI : WI w k p rb cap n pp bb s W2) => hI.clear id
    unfold rk at hrf
    rw [hcs.out] at hrf
    obtain ⟨er, her⟩ : ∃ er, er = (clearW s id).2 := ⟨_, rfl⟩
    obtain ⟨s', hs'⟩ : ∃ s', s' = (clearW s id).1 := ⟨_, rfl⟩
    simp only [← her, ← hs'] at hrf hprog
    replace hrf := Lib.hid hrf
    replace hprog := Lib.hid hprog
    replace her := Lib.hid her
    replace hs' := Lib.hid hs'
    have hBo' := Lib.hid hBo
    clear hDI
    go_wp2_with (first | (refine loadW27 hBo.b4 hwl rfl _ rfl rfl ?_))
    refine hrf.out.mono ?_
    rintro e W2 ⟨uq, ur, ua, rfl, hDN, hK2⟩
    have hone2 := wkC_one (n := n) (on := s'.on) hDN.rw.ones.1 hDN.rw.ones.2.1 hDN.rw.ones.2.2
    have hwl2 := wkC_len n uq ur ua s'.on
    have hBo2 := hBo'.out.kept hK2
    obtain ⟨N, hN⟩ : ∃ N, N = W2.heap.size := ⟨_, rfl⟩
    have hKN : Keeps W2 ((W2.alloc (.cells zW.toArray 57)).setRow N (wkC n uq ur ua s'.on).toArray) := Chg.keeps (S := (· = N)) (Chg.setRow _ rfl) (Keeps.alloc _ _) (fun b hb e => by omega)
    have hbN : Blk ((W2.alloc (.cells zW.toArray 57)).setRow N (wkC n uq ur ua s'.on).toArray) N 57 (wkC n uq ur ua s'.on) := by rw [hN]; exact (Blk.new W2 _ zW).setRow _
    have hNW : W.heap.size ≤ N := by have := (hKW.out.trans hK2).size; omega
    have hNR : N ≠ R := by obtain ⟨_, h1, _⟩ := hBo2.r; have := h1.lt; omega
    have hst : (fun W3 => Bo W B4 B5 R cs (ki, id, cp, nn) W3 ∧ DN w k p rb cap n pp bb (fun b => Z b ∨ b = R) uq ur ua s s' W3 ∧ Keeps W W3 ∧ Blk W3 N 57 (wkC n uq ur ua s'.on)) _ := ⟨hBo2.kept hKN, hDN.kept hKN, (hKW.out.trans hK2).trans hKN, hbN⟩
    replace hst := Lib.hid hst
    replace hone2 := Lib.hid hone2
    clear hDN hK2 hKN hbN hBo2 hBo hBo' hKW y0 y1 y2 y3 hrf
    generalize hcs2 : wkC n uq ur ua s'.on = cs2 at *
    replace hcs2 := Lib.hid hcs2
    go_upto_region 26 with (refine storeW27 ⟨zW, Blk.new W2 _ zW, rfl⟩ hwl2 hone2.out rfl _ _ rfl rfl rfl rfl ?_)
    rw [← hN] at *
    refine wp_gen (fun W3 => Bo W B4 B5 R cs (ki, id, cp, nn) W3 ∧ DN w k p rb cap n pp bb (fun b => Z b ∨ b = R) uq ur ua s s' W3 ∧ Keeps W W3 ∧ Blk W3 N 57 cs2) hst.out ?_
    clear hst
    rintro W3 ⟨hBo, hDN, hKW, hbN⟩
    obtain ⟨C0, hC0⟩ : ∃ C0 : World → Prop, C0 = fun w' => Blk w' N 57 cs2 ∧ Blk w' B5 45 (aE27 (ki, id, cp, nn)) := ⟨_, rfl⟩
    have hC0i : ∀ w', Blk w' N 57 cs2 → Blk w' B5 45 (aE27 (ki, id, cp, nn)) → C0 w' := fun w' h1 h2 => by rw [hC0]; exact ⟨h1, h2⟩
    have hC0x : ∀ w', C0 w' → Blk w' N 57 cs2 ∧ Blk w' B5 45 (aE27 (ki, id, cp, nn)) := fun w' h => by rw [hC0] at h; exact h
    have hCa : C0 W3.drew := hC0i _ (hbN.keeps (Keeps.drew _)) (hBo.b5.keeps (Keeps.drew _))
    have hbl : ∀ w', (∃ x : WorldIn C0, w' = x.now) → Blk w' N 57 cs2 := by rintro _ ⟨x, rfl⟩; exact (hC0x _ x.ok).1
    have hg1 : ∀ x : WorldIn C0, x.now.cell? ⟨B5, 1, none⟩ = some (.int .i64 id) := fun x => (hC0x _ x.ok).2.cell 1 (by simp [aE27])
    haveI : Nonempty (WorldIn C0) := ⟨⟨_, hCa⟩⟩
    have hp2 := hprog.out W3.drew (hDN.kept (Keeps.drew W3)).wi
    have hDN2 := hDN.kept (Keeps.drew W3)
    have hBo2 := hBo.kept (Keeps.drew W3)
    have hKW2 := hKW.trans (Keeps.drew W3)
    have hbN2 := hbN.keeps (Keeps.drew W3)
    replace hbl := Lib.hid hbl
    replace hp2 := Lib.hid hp2
    replace hDN2 := Lib.hid hDN2
    replace hBo2 := Lib.hid hBo2
    replace hKW2 := Lib.hid hKW2
    replace hbN2 := Lib.hid hbN2
    replace hC0i := Lib.hid hC0i
    clear hC0 hC0x hBo hDN hKW hbN hprog
    refine region_seqC [4, 7] C0 (by kernel_rfl) (by kernel_rfl) hCa ?_
    refine wpSeq_reads 4 (by rfl) ?_
    simp only [List.take_succ_cons, List.take_zero, List.drop_succ_cons, List.drop_zero]
    refine quietRow hbl.out rfl 57 _ rfl rfl _ Try.underlying57 rfl 36 sizeW27 hwl2 ?_
    go_frame
    iterate 3 go_big_quiet_step (fail)
    refine wpQuiet_nil ?_
    refine wpSeq_call (by rfl) ?_
    go_wp2_with fail
    refine hp2.out.mono ?_
    rintro e W4 ⟨rfl, hI, hC⟩
    have hDI4 := hDN2.out.done hI hC
    have hBo4 := hBo2.out.chg hC hfW.out
    have hbN4 := hbN2.out.chg hC (fun e => by have := hfW.out _ e; omega)
    have hC4 := hC0i.out _ hbN4 hBo4.b5
    have hb5f := hBo4.b5.otherRow (b' := R) (by have := hBo4.n5r; omega) cs2.toArray
    have hC5 := hC0i.out _ (hbN4.otherRow hNR cs2.toArray) hb5f
    have hChg := (Chg.of_keeps (S := FW k p rb n pp bb) hKW2.out).trans hC
    have hfinD := hDI4.out hRf.out hRw hfw.out cs2.toArray
    have hfinB : Blk (W4.setRow R cs2.toArray) R 57 cs2 := by obtain ⟨_, h1, _⟩ := hBo4.r; exact h1.setRow _
    have hfinC : Chg (FW k p rb n pp bb) W (W4.setRow R cs2.toArray) := (hChg.mono (T := fun b => FW k p rb n pp bb b ∨ b = R) fun _ _ hs => .inl hs).trans (Chg.setRow _ (.inr rfl)) |>.mono fun b hb hs => hs.elim (fun h => h) fun e => by have := hR.out; omega
    have hr4 := hBo4.r
    replace hr4 := Lib.hid hr4
    replace hfinD := Lib.hid hfinD
    replace hfinB := Lib.hid hfinB
    replace hfinC := Lib.hid hfinC
    replace hC5 := Lib.hid hC5
    clear hI hC hDI4 hBo4 hbN4 hb5f hChg hp2 hDN2 hBo2 hKW2 hbN2
    go_wp2_with fail
    refine seq_onC hC4 ?_
    refine wpSeq_reads 2 (by rfl) ?_
    simp only [List.take_succ_cons, List.take_zero, List.drop_succ_cons, List.drop_zero]
    iterate 2 go_big_quiet_step (fail)
    refine wpQuiet_nil ?_
    refine wpSeq_call (by rfl) ?_
    refine storeW27 hr4.out hwl2 hone2.out rfl _ _ rfl rfl rfl rfl ?_
    refine wpList_nil ?_
    refine seq_onC hC5.out ?_
    refine wpSeq_reads 1 (by rfl) ?_
    simp only [List.take_succ_cons, List.take_zero, List.drop_succ_cons, List.drop_zero]
    iterate 1 go_big_quiet_step (fail)
    refine wpQuiet_nil ?_
    refine wpSeq_nil ?_
    go_wp2_with fail
    exact bodyPost_ret (results_row_slot rfl _ hfinB.out rfl _ Try.underlying57 rfl 36 sizeW27 hwl2) rfl ⟨s', _, _, ua, by (rw [hcs2.out]; simp), hfinD.out, hfinC.out⟩
end
end Go.Proofs.Ytcggbfpangnllaa
