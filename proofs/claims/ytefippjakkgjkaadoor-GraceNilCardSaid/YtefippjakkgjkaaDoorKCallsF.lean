/- The walks of package calls: Done. -/
import Derived.Test.YtefippjakkgjkaaDoorKCallsE
namespace Go.Proofs.YtefippjakkgjkaaDoor.K
open Go.RowKit Go.Shelf
attribute [local go_sem] Oper.semAt_some

set_option maxHeartbeats 400000 in
theorem front_any (q0 : Option Addr) (g : Int) (w : World) :
    Calls Tryd.prog 79 #[.pointer q0, .int .i64 g] w fun e w' => e = .returned (.func (.func 91) #[] #[.pointer (some ⟨w.heap.size, 0, none⟩), .pointer (some ⟨w.heap.size + 1, 0, none⟩)]) ∧ (w.alloc (.cells #[.pointer q0] 110)).alloc (.cells #[.int .i64 g] 3) = w' := by
  go_enter Tryd.func79, Tryd.ntmps79
  go_wp2
  go_ret
  exact ⟨rfl, rfl⟩
theorem front_stops (B1 B2 p b hd : Nat) (xs : List Cl) (g : Int) (w : World) (hB1 : Boxed w B1 110 (.pointer (some ⟨p, 0, none⟩))) (hB2 : Boxed w B2 3 (.int .i64 g)) (hn1 : B1 ≠ p ∧ B1 ≠ b) (hn2 : B2 ≠ p ∧ B2 ≠ b) (hR : RingAt w p b 64 hd xs) :
    SeqStopsT (fun k => k = p ∨ k = b) (fun W => ∃ hd, RingAt W p b 64 hd (lfL g xs)) Tryd.prog 91 #[.pointer (some ⟨B1, 0, none⟩), .pointer (some ⟨B2, 0, none⟩)] (fun x : Cl => #[.agg #[.int .i64 x.1, .int .i64 x.2]]) (KeepK (FrK B1 B2 p b)) (dnL g xs) w := fun l J Jx W hW hJT hY h0 =>
  front1_in l B1 B2 p b hd xs g J Jx W hJT hY ((hW.block B1 hB1.lt).trans hB1) ((hW.block B2 hB2.lt).trans hB2) hn1 hn2 (hR.keeps hW) h0
section
variable {w : World} {p rb cap n : Nat} {pp bb : Nat → Nat} {last : Int} {R : List (List Cl)}
theorem infoIntC : (Tryd.prog.info? 3).map (fun i => (i.zero, i.size, i.bytes)) = some (some (.int .i64 0), 1, 8) := by kernel_rfl
/-- The callbacks that are told, of the first k rings; the rings that are left. -/
def tellL (g : Int) (R : List (List Cl)) : List Int := (R.map fun xs => (dnL g xs).map (·.1)).flatten
def lfTo (g : Int) (R : List (List Cl)) (k : Nat) : List (List Cl) := (R.take k).map (lfL g) ++ R.drop k
set_option maxHeartbeats 400000 in
theorem ldone_nil (g : Int) (w : World) : Calls Tryd.prog 65 #[.pointer none, .int .i64 g] w fun e w' => e = .returned (.slice none 0 0) ∧ w = w' := by
  go_enter Tryd.func65, Tryd.ntmps65
  go_wp2
  go_ret
  exact ⟨rfl, rfl⟩
theorem ringStays (B p b room : Nat) (xs : List Cl) : Stays B (fun W => ∃ hd, RingAt W p b room hd xs) := by
  rintro W W' row ⟨hd, h⟩ hg hr
  obtain ⟨els, h1, h2⟩ := h.buf
  exact ⟨hd, h.ne, Stays.blk B p _ _ W W' row h.hdr hg hr, ⟨els, Stays.blk B b _ _ W W' row h1 hg hr, h2⟩, h.hdlt, h.len, h.lo, h.hi⟩
theorem chgStays (S : Nat → Prop) (B : Nat) (W0 : World) (hB : ∀ k, k < W0.heap.size → B ≤ k → S k) : Stays B (fun W => Chg S W0 W) := fun W W' row hs hg hr =>
  ⟨hg.os.trans hs.os, hg.tape.trans hs.tape, hg.output.trans hs.output, Nat.le_trans hs.size hg.size, fun k hk hn => by
    rw [hg.block k (Nat.lt_of_lt_of_le hk hs.size) (fun e => ?_)]
    · exact hs.block k hk hn
    · obtain ⟨h1, _⟩ := hr k e.symm
      exact hn (hB k hk h1)⟩
theorem markStays (B D : Nat) (hD : D < B) : Stays B (fun W => W.heap[D]? = some (.deferred (some []))) := fun W W' row hs hg hr =>
  (hg.block D (Array.getElem?_eq_some_iff.1 hs).1 (fun e => by obtain ⟨h1, _⟩ := hr D e.symm; omega)).trans hs
/-- One ring has turned, and whatever is none of ours. -/
theorem ListsAt.set' (h : ListsAt w p rb cap n pp bb last R) {w' : World} {S : Nat → Prop} {i hd : Nat} (hi : i < n) {x : List Cl} (hR : RingAt w' (pp i) (bb i) 64 hd x) (hc : Chg S w w') (hS : ∀ k, S k → k = pp i ∨ k = bb i ∨ ¬ Foot p rb n pp bb k) : ListsAt w' p rb cap n pp bb last (R.set i x) := by
  have hf := h.far i hi
  have no : ∀ k, Foot p rb n pp bb k → k ≠ pp i → k ≠ bb i → ¬ S k := fun k hk h1 h2 hs => by
    rcases hS k hs with h3 | h3 | h3
    · exact h1 h3
    · exact h2 h3
    · exact h3 hk
  refine ⟨h.hdr.chg hc (no p (.inl rfl) hf.1.symm hf.2.1.symm), ?_, h.hn, h.hcap, by rw [List.length_set]; exact h.len, fun j hj => ?_, h.ne, h.far, h.apart, h.n64⟩
  · obtain ⟨cs, h1, h2⟩ := h.tab
    exact ⟨cs, h1.chg hc (no rb (.inr (.inl rfl)) hf.2.2.1.symm hf.2.2.2.symm), h2⟩
  · by_cases e : i = j
    · subst e
      refine ⟨hd, ?_⟩
      rw [show (R.set i x).getD i [] = x by simp [List.getD, h.len, hi]]
      exact hR
    · obtain ⟨hd', hR'⟩ := h.ring j hj
      refine ⟨hd', ?_⟩
      rw [show (R.set i x).getD j [] = R.getD j [] by simp [List.getD, e]]
      have h1 := h.apart i j hi hj e
      have h2 := h.apart j i hj hi (Ne.symm e)
      exact hR'.chg hc (no _ (.inr (.inr ⟨j, hj, .inl rfl⟩)) (by omega) (by omega)) (no _ (.inr (.inr ⟨j, hj, .inr rfl⟩)) (by omega) (by omega))
theorem lfTo_zero (g : Int) (R : List (List Cl)) : lfTo g R 0 = R := by simp [lfTo]
theorem lfTo_all (g : Int) (R : List (List Cl)) : lfTo g R R.length = R.map (lfL g) := by simp [lfTo]
theorem lfTo_get (g : Int) (R : List (List Cl)) (k : Nat) (h : k < R.length) : (lfTo g R k).getD k [] = R.getD k [] := by
  unfold lfTo
  rw [List.getD, List.getElem?_append_right (by simp; omega), List.getElem?_drop]
  simp [List.getD, Nat.min_eq_left (Nat.le_of_lt h)]
theorem lfTo_set (g : Int) (R : List (List Cl)) (k : Nat) (h : k < R.length) : (lfTo g R k).set k (lfL g (R.getD k [])) = lfTo g R (k + 1) := by
  unfold lfTo
  have e : k - ((R.take k).map (lfL g)).length = 0 := by simp; omega
  rw [show R.getD k [] = R[k] by simp [List.getD, h], List.set_append_right _ _ (by simp; omega), e, List.drop_eq_getElem_cons h, List.set_cons_zero, List.take_succ_eq_append_getElem h, List.map_append, List.append_assoc]
  rfl
theorem tell_succ (g : Int) (R : List (List Cl)) (k : Nat) (h : k < R.length) : tellL g (R.take (k + 1)) = tellL g (R.take k) ++ (dnL g (R.getD k [])).map (·.1) := by
  unfold tellL
  rw [show R.getD k [] = R[k] by simp [List.getD, h], List.take_succ_eq_append_getElem h, List.map_append, List.flatten_append]
  simp
theorem tell_le (g : Int) (R : List (List Cl)) (h : ∀ i, i < R.length → (R.getD i []).length ≤ 64) (k : Nat) (hk : k ≤ R.length) : (tellL g (R.take k)).length ≤ 64 * k := by
  induction k with
  | zero => simp [tellL]
  | succ k ih =>
    have h1 := ih (by omega)
    have h2 := h k (by omega)
    have h3 : (dnL g (R.getD k [])).length ≤ (R.getD k []).length := (List.takeWhile_prefix _).length_le
    rw [tell_succ g R k (by omega), List.length_append, List.length_map]
    omega
set_option maxRecDepth 100000 in
set_option maxHeartbeats 2000000 in
theorem ldone_any (h : ListsAt w p rb cap n pp bb last R) (g : Int) :
    Calls Tryd.prog 65 #[.pointer (some ⟨p, 0, none⟩), .int .i64 g] w fun e w' => ∃ v, e = .returned v ∧ w'.ownsRow w.heap.size 3 1 v (tellL g R).length ((tellL g R).map (Value.int .i64)) ∧
      ListsAt w' p rb cap n pp bb last (R.map (lfL g)) ∧ Chg (Foot p rb n pp bb) w w' := by
  have c0 := h.c0
  have hpl := h.hdr.lt
  have hfl := h.foot_lt
  have hnc := h.hn
  have hncap := h.hcap
  have hRl := h.len
  have hn64 := h.n64
  unfold maxLen at hncap
  have hr64 : ∀ i, i < R.length → (R.getD i []).length ≤ 64 := fun i hi => by obtain ⟨hd, hR⟩ := h.ring i (by omega); exact hR.len
  have hL0 := h.keeps (Keeps.alloc w (.cells #[.slice none 0 0] 38))
  refine (callsIn_wide (n := 9)).1 ?_
  refine callsIn_of_wp_marks Tryd.func65 rfl trivial ?_ rfl
  simp only [Tryd.ntmps65, List.size_toArray, List.length_cons, List.length_nil, Nat.reduceAdd, Nat.reduceSub, Array.replicate_succ, Array.replicate_zero, List.push_toArray, List.append_toArray, List.nil_append, List.cons_append]
  have bO := Boxed.new w 38 (.slice none 0 0)
  replace hfl := Lib.hid hfl
  replace hRl := Lib.hid hRl
  replace hr64 := Lib.hid hr64
  replace hL0 := Lib.hid hL0
  replace bO := Lib.hid bO
  clear h
  gi_wp2_with fail
  refine wpIn_loop (fun a' W => ∃ (k : Nat) (Ds : List Nat) (u7 u17 u18 u19 u20 u21 u22 u29 v : Value), a' = { tmps := #[.pointer (some ⟨p, 0, none⟩), .int .i64 g, undef, undef, .slice none 0 0, .pointer (some ⟨w.heap.size, 0, none⟩), undef, u7, undef, .pointer (some ⟨p, 0, none⟩), .bool false, .pointer (some ⟨p, 0, none⟩), .pointer (some ⟨p, 0, none⟩), .pointer (some ⟨p, 0, none⟩), .slice (some ⟨rb, 0, none⟩) n cap, .int .i64 n, .int .i64 k, u17, u18, u19, u20, u21, u22, undef, undef, undef, undef, undef, undef, u29, undef], defers := marksOf Ds } ∧
      k ≤ n ∧ Ds.Nodup ∧ (∀ D ∈ Ds, w.heap.size < D ∧ W.heap[D]? = some (.deferred (some []))) ∧ Boxed W w.heap.size 38 v ∧ W.ownsRow (w.heap.size + 1) 3 1 v (tellL g (R.take k)).length ((tellL g (R.take k)).map (Value.int .i64)) ∧ ListsAt W p rb cap n pp bb last (lfTo g R k) ∧ Chg (Foot p rb n pp bb) w W)
    (fun a' _ => n - (intOf (a'.tmps.getD 16 undef)).toNat) ?start ?round
  case start =>
    refine ⟨0, [], _, _, _, _, _, _, _, _, _, rfl, Nat.zero_le _, List.nodup_nil, ?_, bO.out, World.ownsRow_nil _ _ _ _, ?_, Chg.of_keeps (Keeps.alloc _ _)⟩
    · intro D hD; cases hD
    · rw [lfTo_zero]; exact hL0.out
  case round =>
    clear bO hL0 c0
    rintro _ W ⟨k, Ds, u7, u17, u18, u19, u20, u21, u22, u29, v, rfl, hk, hnd, hDs, hv, hrow, hL, hC⟩
    have hkn : k < n ∨ k = n := by omega
    rcases hkn with hlt | rfl
    · have hltI := Int.ofNat_lt.2 hlt
      have hRk : k < R.length := by have := hRl.out; omega
      have cp := hL.ptr k hlt
      have hLl := hL.foot_lt
      obtain ⟨hd, hR⟩ := hL.ring k hlt
      rw [lfTo_get g R k hRk] at hR
      have hfr := fun (W : World) => front_any (some ⟨pp k, 0, none⟩) g W
      replace hfr := Lib.hid hfr
      replace hL := Lib.hid hL
      replace hC := Lib.hid hC
      replace hv := Lib.hid hv
      replace hrow := Lib.hid hrow
      replace hDs := Lib.hid hDs
      replace hR := Lib.hid hR
      replace hLl := Lib.hid hLl
      gi_wp2_with (refine ⟨trivial, ?_⟩; gi_at_call 79; refine (callsIn_wide.2 (hfr.out _)).mono ?_; rintro e w' ⟨rfl, rfl⟩)
      obtain ⟨Wl, hWl⟩ : ∃ Wl, Wl = (W.alloc (.cells #[.pointer (some ⟨pp k, 0, none⟩)] 110)).alloc (.cells #[.int .i64 g] 3) := ⟨_, rfl⟩
      have hKl : Keeps W Wl := by rw [hWl]; exact Keeps.trans (Keeps.alloc _ _) (Keeps.alloc _ _)
      have hWs : Wl.heap.size = W.heap.size + 2 := by rw [hWl]; simp
      have bR : Boxed Wl W.heap.size 110 (.pointer (some ⟨pp k, 0, none⟩)) := by rw [hWl]; exact (Boxed.new W _ _).alloc _
      have bG : Boxed Wl (W.heap.size + 1) 3 (.int .i64 g) := by rw [hWl]; have := Boxed.new (W.alloc (.cells #[.pointer (some ⟨pp k, 0, none⟩)] 110)) 3 (.int .i64 g); rwa [World.size_alloc] at this
      rw [← hWl]
      have hf1 := hfl.out (pp k) (.inr (.inr ⟨k, hlt, .inl rfl⟩))
      have hf2 := hfl.out (bb k) (.inr (.inr ⟨k, hlt, .inr rfl⟩))
      have hws := hC.out.size
      have hvl := hv.out.lt
      have hdl : (dnL g (R.getD k [])).length ≤ 64 := Nat.le_trans (List.takeWhile_prefix _).length_le (hr64.out k hRk)
      have htl := tell_le g R hr64.out k (by omega)
      have hts := tell_succ g R k hRk
      generalize hT : tellL g (R.take k) = TT at *
      generalize hX : R.getD k [] = X at *
      refine iter_ruleT (fun j => j = pp k ∨ j = bb k) (fun j hj => by omega) (KeepK (FrK W.heap.size (W.heap.size + 1) (pp k) (bb k))) KeepK.trans (fun W l o o' _ hl hc => KeepK.putObj o' hl hc) (gf := 91) (lb := #[.pointer (some ⟨W.heap.size, 0, none⟩), .pointer (some ⟨W.heap.size + 1, 0, none⟩)]) rfl (enters_of Tryd.func91 (by kernel_rfl) rfl)
        (fun W => ∃ hd, RingAt W (pp k) (bb k) 64 hd (lfL g X)) (ringStays _ _ _ _ _) (front_stops W.heap.size (W.heap.size + 1) (pp k) (bb k) hd X g Wl bR bG (by omega) (by omega) (hR.out.keeps hKl)) (Below.refl _ _) (fun _ => rfl)
        (fun pre W2 => ∃ v2, Boxed W2 w.heap.size 38 v2 ∧ W2.ownsRow (w.heap.size + 1) 3 1 v2 (TT.length + pre.length) ((TT ++ pre.map (·.1)).map (Value.int .i64)) ∧ (∀ r, v2.ownBlock = some r → r ≠ W.heap.size ∧ r ≠ W.heap.size + 1) ∧ (∀ D ∈ Ds, W2.heap[D]? = some (.deferred (some []))) ∧ Chg (fun j => j = pp k ∨ j = bb k ∨ w.heap.size ≤ j) W W2 ∧ Wl.heap.size ≤ W2.heap.size)
        (fun _ _ _ => False)
        (fun pre => Stays.ex fun v2 => (Stays.boxed _ _ _ _).and (Stays.row.and ((Stays.pure _ _).and (Stays.and ?marks ((chgStays _ _ _ fun j hj hb => .inr (.inr (by omega))).and (Stays.size _ _))))))
        ?iT (fun c pre => Stays.pure _ _) ?i0
        (fun x a' W2 => ∃ B, Wl.heap.size ≤ B ∧ Blk W2 B 114 (xc x) ∧ a' = { tmps := #[.pointer (some ⟨p, 0, none⟩), .int .i64 g, undef, undef, .slice none 0 0, .pointer (some ⟨w.heap.size, 0, none⟩), undef, .pointer (some ⟨pp k, 0, none⟩), .pointer (some ⟨B, 0, none⟩), .pointer (some ⟨p, 0, none⟩), .bool false, .pointer (some ⟨p, 0, none⟩), .pointer (some ⟨p, 0, none⟩), .pointer (some ⟨p, 0, none⟩), .slice (some ⟨rb, 0, none⟩) n cap, .int .i64 n, .int .i64 k, .bool true, .pointer (some ⟨rb, k, none⟩), .pointer (some ⟨pp k, 0, none⟩), .pointer (some ⟨pp k, 0, none⟩), .int .i64 g, .func (.func 91) #[] #[.pointer (some ⟨W.heap.size, 0, none⟩), .pointer (some ⟨W.heap.size + 1, 0, none⟩)], .agg #[.int .i64 x.1, .int .i64 x.2], undef, undef, undef, undef, undef, u29, undef], defers := [] })
        (fun x a' => Stays.ex fun B => (Stays.pure _ _).and ((Stays.blk _ _ _ _).and (Stays.pure _ _)))
        ?assign ?body ?done ?stop
      case marks =>
        intro W2 W3 row hs hg hr D hD
        exact markStays Wl.heap.size D (by have := (Array.getElem?_eq_some_iff.1 (hDs.out D hD).2).1; omega) W2 W3 row (hs D hD) hg hr
      case iT =>
        rintro pre A B ⟨v2, h1, h2, h3, h4, h5, h6⟩ hc
        refine ⟨v2, boxed_chg h1 hc (by omega), ?_, h3, fun D hD => chg_heap (n := w.heap.size) hc (fun j hj => by omega) (by have := (hDs.out D hD).1; omega) (h4 D hD), h5.trans (hc.mono fun j _ hj => by rcases hj with h | h; exact .inl h; exact .inr (.inl h)), Nat.le_trans h6 hc.size⟩
        refine ⟨h2.1, ?_⟩
        rcases h2.2 with h0 | ⟨g', cap', cur, hv', hb', hg', hr'⟩
        · exact .inl h0
        · exact .inr ⟨g', cap', cur, hv', hb', (hc.block g' ((Array.getElem?_eq_some_iff.1 hg').1) (by omega)).trans hg', hr'⟩
      case i0 =>
        have hrl : Wl.ownsRow (w.heap.size + 1) 3 1 v TT.length (TT.map (Value.int .i64)) := by
          refine ⟨hrow.out.1, ?_⟩
          rcases hrow.out.2 with h0 | ⟨g', cap', cur, hv', hb', hg', hr'⟩
          · exact .inl h0
          · exact .inr ⟨g', cap', cur, hv', hb', (hKl.block g' ((Array.getElem?_eq_some_iff.1 hg').1)).trans hg', hr'⟩
        refine ⟨v, (Blk.keeps (cs := [v]) hv.out hKl), by simpa using hrl, fun r hr => ?_, fun D hD => ?_, Chg.of_keeps hKl, Nat.le_refl _⟩
        · have := (row_own hrow.out r hr).2; omega
        · have := (hDs.out D hD).2
          rw [hKl.block D (Array.getElem?_eq_some_iff.1 this).1]; exact this
      case assign =>
        rintro l pre x W2 K ⟨v2, h1, h2, h3, h4, h5, h6⟩ hK
        have hk2 : Keeps W2 (W2.alloc (.cells (xc x).toArray 114)) := Keeps.alloc _ _
        gi_wp2
        refine hK _ _ (keepsFrom_keeps hk2) (KeepK.of_keeps hk2) ⟨v2, h1.alloc _, h2.alloc _, h3, fun D hD => ?_, h5.trans (Chg.of_keeps hk2), by simp; omega⟩ ⟨W2.heap.size, h6, Blk.new _ _ _, rfl⟩
        have := h4 D hD
        exact (hk2.block D (Array.getElem?_eq_some_iff.1 this).1).trans this
      case body =>
        rintro l pre x a' W2 hlt2 ⟨v2, h1, h2, h3, h4, h5, h6⟩ ⟨B, hBB, hBx, rfl⟩
        have hc := h1.cell
        have x0 := hBx.cell 0 (by simp [xc])
        simp only [xc, List.getElem_cons_zero] at x0
        have hpl2 : pre.length < 64 := by omega
        have hsz2 : w.heap.size + 1 ≤ W2.heap.size := by have := h1.lt; omega
        gi_wp2_with (gi_at_builtin; refine app1InL rfl _ _ 38 3 (.int .i64 0) 8 rfl Tryd.underlying38 infoIntC rfl (w.heap.size + 1) _ _ _ rfl h2 _ rfl rfl (by unfold maxLen; omega) (by omega) hsz2 ?_)
        intro g2 cap2 W3 hrow2 hgrow hbel hat
        have hne : v2.ownBlock ≠ some w.heap.size := fun e => by have := (row_own h2 _ e).1; omega
        have hv3 : Boxed W3 w.heap.size 38 v2 := (h1.alloc _).kept hgrow (fun e => hne e.symm)
        have hc3 := hv3.cell
        have hf3 := hv3.frozen
        obtain ⟨W4, hW4⟩ : ∃ W4, W4 = W3.setCell ⟨w.heap.size, 0, none⟩ (.slice (some ⟨g2, 0, none⟩) (TT.length + pre.length + 1) cap2) := ⟨_, rfl⟩
        have hko : KeepsOthers W2 W4 := by rw [hW4]; exact keepsOthers_app1 h2 hgrow _ _
        have hC3 : Chg (fun j => v2.ownBlock = some j ∨ j = w.heap.size) W2 W4 := by
          rw [hW4]
          exact Chg.trans (S := fun j => v2.ownBlock = some j ∨ j = w.heap.size) ⟨hgrow.os, hgrow.tape, hgrow.output, Nat.le_trans (by simp) hgrow.size, fun i hi hn => (hgrow.block i (by simp; omega) (fun e => hn (.inl e.symm))).trans (Below.heap_alloc _ _ _ hi)⟩ (Chg.setCell _ _ (.inr rfl))
        have hown1 := fun r hr => row_own h2 r hr
        have hKK : KeepK (FrK W.heap.size (W.heap.size + 1) (pp k) (bb k)) W2 W4 := KeepK.of_chg hC3 (fun j hj hs => by
          rcases hs with hs | hs
          · have a1 := h3 j hs
            have a2 := (hown1 j hs).1
            rcases hj with h | h | h | h <;> omega
          · rcases hj with h | h | h | h <;> omega)
        have hrow4 : W4.ownsRow (w.heap.size + 1) 3 1 (.slice (some ⟨g2, 0, none⟩) (TT.length + pre.length + 1) cap2) (TT.length + (pre ++ [x]).length) ((TT ++ (pre ++ [x]).map (·.1)).map (Value.int .i64)) := by
          have hC4 : Chg (· = w.heap.size) W3 W4 := by rw [hW4]; exact Chg.setCell _ _ rfl
          have e1 : (TT ++ (pre ++ [x]).map (·.1)).map (Value.int .i64) = TT.map (Value.int .i64) ++ (pre.map (Value.int .i64 ∘ fun x => x.1) ++ [.int .i64 x.1]) := by simp
          rw [e1, List.length_append, List.length_singleton, ← Nat.add_assoc]
          refine ⟨hrow2.1, ?_⟩
          rcases hrow2.2 with ⟨e, _⟩ | ⟨g', cap', cur, e, hb', hg', hr'⟩
          · cases e
          · exact .inr ⟨g', cap', cur, e, hb', (hC4.block g' ((Array.getElem?_eq_some_iff.1 hg').1) (by omega)).trans hg', hr'⟩
        have hv4 : Boxed W4 w.heap.size 38 (.slice (some ⟨g2, 0, none⟩) (TT.length + pre.length + 1) cap2) := by rw [hW4]; exact hv3.set _
        have hr4 : ∀ r, (Value.slice (some ⟨g2, 0, none⟩) (TT.length + pre.length + 1) cap2).ownBlock = some r → r ≠ W.heap.size ∧ r ≠ W.heap.size + 1 := fun r hr => by
          obtain rfl : g2 = r := by simpa [Value.ownBlock] using hr
          rcases hat with h | h
          · exact h3 _ h
          · omega
        have hD4 : ∀ D ∈ Ds, W4.heap[D]? = some (.deferred (some [])) := fun D hD => hko.same D _ (h4 D hD) rfl
        have hC5 : Chg (fun j => j = pp k ∨ j = bb k ∨ w.heap.size ≤ j) W W4 := h5.trans (hC3.mono fun j _ hj => by
          rcases hj with h | h
          · have := (hown1 j h).1; exact .inr (.inr (by omega))
          · exact .inr (.inr (by omega)))
        have hs4 : Wl.heap.size ≤ W4.heap.size := Nat.le_trans h6 hC3.size
        replace hW4 := Lib.hid hW4
        replace hko := Lib.hid hko
        replace hKK := Lib.hid hKK
        replace hrow4 := Lib.hid hrow4
        replace hv4 := Lib.hid hv4
        replace hr4 := Lib.hid hr4
        replace hD4 := Lib.hid hD4
        replace hC5 := Lib.hid hC5
        clear hrow2 hgrow hbel hat hC3 h1 h2 h3 h4 h5 hown1 hc x0
        gi_wp2
        rw [← hW4.out]
        exact ⟨hko.out.from _, hKK.out, _, hv4.out, hrow4.out, hr4.out, hD4.out, hC5.out, hs4⟩
      case done =>
        rintro D W2 hD ⟨v2, h1, h2, h3, h4, h5, h6⟩ ⟨hd2, hR2⟩ hKD
        have hL2 := ListsAt.set' hL.out hlt hR2 h5 (fun j hj => by
          rcases hj with h | h | h
          · exact .inl h
          · exact .inr (.inl h)
          · exact .inr (.inr fun hf => by have := hfl.out j hf; omega))
        rw [← hX, lfTo_set g R k hRk] at hL2
        have hC2 : Chg (Foot p rb n pp bb) w W2 := ⟨h5.os.trans hC.out.os, h5.tape.trans hC.out.tape, h5.output.trans hC.out.output, Nat.le_trans hC.out.size h5.size, fun j hj hn => by
          rw [h5.block j (by omega) (by rintro (h | h | h); exact hn (.inr (.inr ⟨k, hlt, .inl h⟩)); exact hn (.inr (.inr ⟨k, hlt, .inr h⟩)); omega)]
          exact hC.out.block j hj hn⟩
        rw [show TT.length + (dnL g X).length = (TT ++ (dnL g X).map (·.1)).length by simp, ← hts] at h2
        have hnd2 : (D :: Ds).Nodup := List.nodup_cons.2 ⟨fun hm => by have := (Array.getElem?_eq_some_iff.1 (hDs.out D hm).2).1; omega, hnd⟩
        have hDs2 : ∀ E ∈ D :: Ds, w.heap.size < E ∧ W2.heap[E]? = some (.deferred (some [])) := fun E hE => by
          rcases List.mem_cons.1 hE with rfl | hE
          · exact ⟨by omega, hKD⟩
          · exact ⟨(hDs.out E hE).1, h4 E hE⟩
        replace hL2 := Lib.hid hL2
        replace hC2 := Lib.hid hC2
        replace h2 := Lib.hid h2
        replace h1 := Lib.hid h1
        replace hDs2 := Lib.hid hDs2
        replace hnd2 := Lib.hid hnd2
        clear h3 h4 h5 hR2 hts
        gi_wp2
        rw [show (k : Int) + 1 = ((k + 1 : Nat) : Int) by omega]
        refine ⟨⟨k + 1, D :: Ds, _, _, _, _, _, _, _, _, _, rfl, by omega, hnd2.out, hDs2.out, h1.out, h2.out, hL2.out, hC2.out⟩, ?_⟩
        simp [intOf]; omega
      case stop =>
        rintro D c pre W2 hD hpre hf hKD
        exact hf.elim
    · have ht : R.take k = R := List.take_of_length_le (by have := hRl.out; omega)
      rw [ht] at hrow
      rw [← hRl.out, lfTo_all] at hL
      rw [hRl.out] at hL
      have hc := hv.cell
      replace hL := Lib.hid hL
      replace hC := Lib.hid hC
      replace hv := Lib.hid hv
      replace hrow := Lib.hid hrow
      replace hDs := Lib.hid hDs
      clear ht
      gi_wp2
      refine ret_marksN Ds rfl hnd (fun D hD => (hDs.out D hD).2) (v := v) (fun W' => W'.ownsRow (w.heap.size + 1) 3 1 v (tellL g R).length ((tellL g R).map (Value.int .i64)) ∧ ListsAt W' p rb cap k pp bb last (R.map (lfL g)) ∧ Chg (Foot p rb k pp bb) w W') ⟨hrow.out, hL.out, hC.out⟩ ?_ (fun W' _ => results_tmp (fn := Tryd.f65) rfl _ _ _) (fun W' ⟨g1, g2, g3⟩ => ⟨v, rfl, ?_, g2, g3⟩)
      · rintro D hD W' hW' ⟨g1, g2, g3⟩
        have hDw := (hDs.out D hD).1
        have hg := grownBy_putObj' W' D (.deferred none)
        have hc2 : Chg (· = D) W' (W'.putObj D (.deferred none)) := ⟨hg.os, hg.tape, hg.output, hg.size, fun j hj hn => hg.block j hj (fun e => hn (by cases e; rfl))⟩
        refine ⟨ownsRow_putObj g1 _ hW' rfl, g2.chg hc2 (fun j hj hs => by have := hfl.out j hj; omega), ⟨hc2.os.trans g3.os, hc2.tape.trans g3.tape, hc2.output.trans g3.output, Nat.le_trans g3.size hc2.size, fun j hj hn => (hc2.block j (Nat.lt_of_lt_of_le hj g3.size) (by omega)).trans (g3.block j hj hn)⟩⟩
      · refine ⟨g1.1, ?_⟩
        rcases g1.2 with h0 | ⟨g', cap', cur, hv', hb', hg', hr'⟩
        · exact .inl h0
        · exact .inr ⟨g', cap', cur, hv', by omega, hg', hr'⟩
end
end Go.Proofs.YtefippjakkgjkaaDoor.K
