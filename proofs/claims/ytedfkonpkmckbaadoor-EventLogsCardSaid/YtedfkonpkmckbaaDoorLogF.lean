/- Of, List, Len, Lost over a log (Of is printed by gen28f.py out of LogE's After). -/
import Derived.Test.YtedfkonpkmckbaaDoorLogE
namespace Go.Proofs.YtedfkonpkmckbaaDoor
open Go.RowKit Go.Shelf
attribute [local go_sem] Oper.semAt_some

set_option maxRecDepth 100000 in
set_option maxHeartbeats 2000000 in
/-- **Of**, in new memory. -/
theorem of_any {w : World} {m q : Nat} {evs : List EvS} {lost : Int} {v : Value} {kv : Value} {ks : List Int} (hi : Ints w kv ks) (hL : LogAt w m q evs lost v) (h4 : evs.length ≤ 4096) :
    Calls Tryd.prog 20 #[.pointer (some ⟨q, 0, none⟩), kv] w fun e w' => ∃ u, e = .returned u ∧ RowS 5 w.heap.size 28 w' u ((selF (fun _ x => decide (x.k ∈ ks)) evs).map evC) ∧ Keeps w w' := by
  obtain ⟨kq, kc, rfl⟩ : ∃ a b, kv = .slice a ks.length b := by
    obtain ⟨a, b, h, _⟩ := hi
    exact ⟨a, b, by simpa using h⟩
  have hql := hL.hdr.lt
  have hvl := hL.lt
  generalize hp : (fun (_ : Nat) (x : EvS) => decide (x.k ∈ ks)) = p
  have hkb : ∀ b, Value.ownBlock (.slice kq ks.length kc) = some b → 0 < ks.length → b < w.heap.size := fun b hb h0 => by
    obtain ⟨q', cap, he, _, _, _, hc⟩ := hi
    obtain ⟨c, off, hq, hcl⟩ := hc 0 (by rw [List.length_map]; exact h0)
    simp only [Value.slice.injEq] at he
    obtain rfl := he.1.trans hq
    obtain rfl : c = b := by simpa [Value.ownBlock] using hb
    exact cell_lt hcl
  have hsl := selF_len p evs
  refine (callsIn_wide (n := 9)).1 ?_
  refine callsIn_of_wp_marks Tryd.func20 rfl trivial ?_ rfl
  simp only [Tryd.ntmps20, List.size_toArray, List.length_cons, List.length_nil, Nat.reduceAdd, Nat.reduceSub, Array.replicate_succ, Array.replicate_zero, List.push_toArray, List.append_toArray, List.nil_append, List.cons_append]
  gi_wp2_with (refine ⟨trivial, ?_⟩; gi_at_call 30; refine (callsIn_wide.2 (such28_any _ _ _ _ _)).mono ?_; rintro e w' ⟨rfl, rfl⟩)
  have bI := Boxed.new w 41 (.slice kq ks.length kc)
  have bO := Boxed.new (w.alloc (.cells #[(.slice kq ks.length kc)] 41)) 33 (.slice none 0 0)
  have bM := Boxed.new ((w.alloc (.cells #[(.slice kq ks.length kc)] 41)).alloc (.cells #[.slice none 0 0] 33)) 50 (.pointer (some ⟨q, 0, none⟩))
  have bF := Boxed.new (((w.alloc (.cells #[(.slice kq ks.length kc)] 41)).alloc (.cells #[.slice none 0 0] 33)).alloc (.cells #[.pointer (some ⟨q, 0, none⟩)] 50)) 60 (.func (.func 31) #[] #[.pointer (some ⟨w.heap.size, 0, none⟩)])
  simp only [World.size_alloc] at bO bM bF
  have hB0 : Keeps w ((((w.alloc (.cells #[(.slice kq ks.length kc)] 41)).alloc (.cells #[.slice none 0 0] 33)).alloc (.cells #[.pointer (some ⟨q, 0, none⟩)] 50)).alloc (.cells #[.func (.func 31) #[] #[.pointer (some ⟨w.heap.size, 0, none⟩)]] 60)) := (((Keeps.alloc _ _).trans (Keeps.alloc _ _)).trans (Keeps.alloc _ _)).trans (Keeps.alloc _ _)
  have hsz : ((((w.alloc (.cells #[(.slice kq ks.length kc)] 41)).alloc (.cells #[.slice none 0 0] 33)).alloc (.cells #[.pointer (some ⟨q, 0, none⟩)] 50)).alloc (.cells #[.func (.func 31) #[] #[.pointer (some ⟨w.heap.size, 0, none⟩)]] 60)).heap.size = w.heap.size + 4 := by simp
  have bI4 := (((bI.alloc (.cells #[.slice none 0 0] 33)).alloc (.cells #[.pointer (some ⟨q, 0, none⟩)] 50)).alloc (.cells #[.func (.func 31) #[] #[.pointer (some ⟨w.heap.size, 0, none⟩)]] 60))
  have bO4 := ((bO.alloc (.cells #[.pointer (some ⟨q, 0, none⟩)] 50)).alloc (.cells #[.func (.func 31) #[] #[.pointer (some ⟨w.heap.size, 0, none⟩)]] 60))
  have bM4 := (bM.alloc (.cells #[.func (.func 31) #[] #[.pointer (some ⟨w.heap.size, 0, none⟩)]] 60))
  have hL4 := hL.keeps hB0
  generalize hWW : ((((w.alloc (.cells #[(.slice kq ks.length kc)] 41)).alloc (.cells #[.slice none 0 0] 33)).alloc (.cells #[.pointer (some ⟨q, 0, none⟩)] 50)).alloc (.cells #[.func (.func 31) #[] #[.pointer (some ⟨w.heap.size, 0, none⟩)]] 60)) = w4 at *
  clear bI bO bM
  have hst := such_stops (w.heap.size + 1 + 1) (w.heap.size + 1 + 1 + 1) w.heap.size (w.heap.size + 1) m q evs lost v p 31 #[.pointer (some ⟨w.heap.size, 0, none⟩)] w4 (enters_of Tryd.func31 (by kernel_rfl) rfl)
    (fun W wr hk hr hap k x => by
      rw [← hp]
      exact of1_any (k : Int) x (hr.boxed ((hk.block _ bI4.lt).trans bI4) (hap _ (by omega))) (hr.slc (Slc.below (Slc.below hi hB0) hk) (fun b hb h0 => hap b (by have := hkb b hb (by simpa using h0); omega))))
    bM4 bF (by omega) (by omega) (fun e => by have := hvl _ e; omega) (by omega) bO4.cell (by omega) hL4 h4
  refine iter_ruleH w (KeepR w.heap.size (w.heap.size + 1)) KeepR.trans (fun W l o o' hl hlo hc _ => KeepR.putObj hlo hc (by omega) (by omega)) (gf := 41) (lb := #[.pointer (some ⟨w.heap.size + 1 + 1, 0, none⟩), .pointer (some ⟨w.heap.size + 1 + 1 + 1, 0, none⟩)]) rfl (enters_of Tryd.func41 (by kernel_rfl) rfl)
    hst (Below.refl _ _) hB0 (fun _ => rfl)
    (fun pre W => ∃ u, Boxed W (w.heap.size + 1) 33 u ∧ RowS 5 (w.heap.size + 4) 28 W u (pre.map evC) ∧ w.heap.size + 4 ≤ W.heap.size)
    (fun c pre W => False)
    (fun pre => Stays.ex fun u => (Stays.boxed _ _ _ _).and ((Stays.and Stays.row (Stays.pure _ _)).and (Stays.size _ _)))
    (fun c pre => Stays.pure _ _)
    ⟨_, bO4, RowS.nil _ _ _ _, by omega⟩
    (fun x a' W => ∃ B, w.heap.size + 4 ≤ B ∧ Blk W B 28 (evC x) ∧ a' = { tmps := #[.pointer (some ⟨q, 0, none⟩), (.slice kq ks.length kc), undef, .pointer (some ⟨w.heap.size, 0, none⟩), .slice none 0 0, .pointer (some ⟨w.heap.size + 1, 0, none⟩), .pointer (some ⟨B, 0, none⟩), .pointer (some ⟨q, 0, none⟩), .func (.func 31) #[] #[.pointer (some ⟨w.heap.size, 0, none⟩)], .func (.func 41) #[] #[.pointer (some ⟨w.heap.size + 1 + 1, 0, none⟩), .pointer (some ⟨w.heap.size + 1 + 1 + 1, 0, none⟩)], evV x, undef, undef, undef, undef, undef], defers := [] })
    (fun x a' => Stays.ex fun B => (Stays.pure _ _).and ((Stays.blk _ _ _ _).and (Stays.pure _ _)))
    ?assign ?body ?done ?stop
  case assign =>
    rintro l pre ⟨xt, xk, xa, xb, xn⟩ W K hb ⟨u, hv, hrow, hsz2⟩ hK
    have hk : Keeps W (W.alloc (.cells (evC ⟨xt, xk, xa, xb, xn⟩).toArray 28)) := Keeps.alloc _ _
    have hbs := hb.size
    have hvl := hv.lt
    gi_wp2
    refine hK _ _ (keepsFrom_keeps hk) (KeepR.of_keeps hk hbs hvl) (below_of_keeps hk hbs) ⟨u, hv.alloc _, hrow.alloc _, by simp; omega⟩ ⟨W.heap.size, hsz2, Blk.new _ _ _, rfl⟩
  case body =>
    rintro l pre x a' W hb hlt ⟨u, hv, hrow, hsz2⟩ ⟨B, hBB, hBx, rfl⟩
    have hc := hv.cell
    obtain ⟨x0, x1, x2, x3, x4⟩ := evBlk hBx
    have hbs := hb.size
    have hvl := hv.lt
    have hml : (pre.map evC).length = pre.length := by simp
    gi_wp2_with (gi_at_builtin; refine appOneIn rfl _ _ 33 28 _ 5 40 rfl Tryd.underlying33 infoEv rfl (by decide) (w.heap.size + 4) _ _ rfl hrow (evC x) rfl rfl (evC_one _) ?c1 ?c2 ?c3 ?_)
    case c1 => rw [hml]; unfold maxLen; omega
    case c2 => rw [hml]; omega
    case c3 => omega
    intro g2 cap2 W1 hrow2 hgrow hbel hat
    obtain ⟨W2, hW2⟩ : ∃ W2, W2 = W1.setCell ⟨w.heap.size + 1, 0, none⟩ (.slice (some ⟨g2, 0, none⟩) (pre.length + 1) cap2) := ⟨_, rfl⟩
    have hne : u.ownBlock ≠ some (w.heap.size + 1) := fun e => by have := hrow.own _ e; omega
    have hv1 : Boxed W1 (w.heap.size + 1) 33 u := (hv.alloc _).kept hgrow (fun e => hne e.symm)
    have hc1 := hv1.cell
    have hf1 := hv1.frozen
    have hbel1 : Below w.heap.size W W1 := Below.mono hbel (by omega)
    have hat1 : (Value.slice (some ⟨g2, 0, none⟩) (pre.length + 1) cap2).ownBlock = u.ownBlock ∨ ∀ r, (Value.slice (some ⟨g2, 0, none⟩) (pre.length + 1) cap2).ownBlock = some r → W.heap.size ≤ r := by
      rcases hat with h | h
      · exact .inl h.symm
      · exact .inr fun r e => by simp [Value.ownBlock] at e; omega
    have hkr : KeepR w.heap.size (w.heap.size + 1) W W2 := KeepR.appended hv hgrow hbel1 (by omega) hat1 hW2 (by rw [hc1]; rfl)
    have hrow3 : RowS 5 (w.heap.size + 4) 28 W2 (.slice (some ⟨g2, 0, none⟩) (pre.length + 1) cap2) ((pre ++ [x]).map evC) := by
      rw [hW2]
      refine RowS.chg (S := (· = w.heap.size + 1)) ?_ (Chg.setCell _ _ rfl) (fun b hb hs => by omega)
      simpa [List.map_append] using hrow2
    have hv2 : Boxed W2 (w.heap.size + 1) 33 (.slice (some ⟨g2, 0, none⟩) (pre.length + 1) cap2) := by rw [hW2]; exact hv1.set _
    have hko : KeepsOthers W W2 := by rw [hW2]; exact keepsOthers_appended hrow hgrow _ _
    have hbel2 : Below w.heap.size W W2 := hkr.below
    have hs2 : w.heap.size + 4 ≤ W2.heap.size := Nat.le_trans hsz2 hbel2.size
    replace hW2 := Lib.hid hW2
    replace hkr := Lib.hid hkr
    replace hrow3 := Lib.hid hrow3
    replace hv2 := Lib.hid hv2
    replace hko := Lib.hid hko
    clear hrow2 hgrow hbel hrow hv hat hat1 hc x0 x1 x2 x3 x4
    gi_wp2
    rw [← hW2.out]
    exact ⟨⟨hko.out.from _, hbel2, _, hv2.out, hrow3.out, hs2⟩, hkr.out⟩
  case done =>
    rintro D W hD hb ⟨u, hv, hrow, hsz2⟩ hK
    have hc := hv.cell
    gi_wp2
    refine ret_marks hK rfl (v := u) ?_ ⟨u, rfl, ?_, hb.putObj _ (by omega) hK⟩
    · exact results_tmp (fn := Tryd.f20) rfl _ _ _
    · exact RowS.base_le ⟨ownsRow_putObj hrow.1 _ hK rfl, hrow.2⟩ (by omega)
  case stop =>
    rintro D c pre W hD hpre hb h hK
    exact h.elim
theorem selF_all (l : List EvS) : selF (fun k _ => decide ((0 : Int) ≤ (k : Int))) l = l := by
  unfold selF
  rw [List.filter_eq_self.2 (fun x _ => by simp)]
  exact List.zipIdx_map_fst 0 l
theorem list_any28 {w : World} {m q : Nat} {evs : List EvS} {lost : Int} {v : Value} (hL : LogAt w m q evs lost v) (h4 : evs.length ≤ 4096) :
    Calls Tryd.prog 15 #[.pointer (some ⟨q, 0, none⟩)] w fun e w' => ∃ u, e = .returned u ∧ RowS 5 w.heap.size 28 w' u (evs.map evC) ∧ Keeps w w' := by
  have ha := after_any 0 hL h4
  rw [selF_all] at ha
  replace ha := Lib.hid ha
  go_enter Tryd.func15, Tryd.ntmps15
  go_wp2_with fail
  with_reducible refine (ha.out).mono ?_
  rintro e w1 ⟨u, rfl, hr, hK⟩
  replace hK := Lib.hid hK
  replace hr := Lib.hid hr
  go_wp2_with fail
  go_ret
  exact ⟨u, rfl, hr.out, hK.out⟩
theorem len_any28 {w : World} {m q : Nat} {evs : List EvS} {lost : Int} {v : Value} (hL : LogAt w m q evs lost v) :
    Calls Tryd.prog 17 #[.pointer (some ⟨q, 0, none⟩)] w fun e w' => e = .returned (.int .i64 (evs.length : Int)) ∧ w = w' := by
  obtain ⟨vq, vc, rfl⟩ := hL.slice
  have c0 : w.cell? ⟨q, 0, none⟩ = some (.slice vq evs.length vc) := hL.hdr.cell 0 (by simp)
  clear hL
  go_enter Tryd.func17, Tryd.ntmps17
  go_wp2_with fail
  go_ret
  exact ⟨rfl, rfl⟩
theorem lost_any28 {w : World} {m q : Nat} {evs : List EvS} {lost : Int} {v : Value} (hL : LogAt w m q evs lost v) :
    Calls Tryd.prog 16 #[.pointer (some ⟨q, 0, none⟩)] w fun e w' => e = .returned (.int .i64 lost) ∧ w = w' := by
  have c1 : w.cell? ⟨q, 1, none⟩ = some (.int .i64 lost) := hL.hdr.cell 1 (by simp)
  clear hL
  go_enter Tryd.func16, Tryd.ntmps16
  go_wp2_with fail
  go_ret
  exact ⟨rfl, rfl⟩
end Go.Proofs.YtedfkonpkmckbaaDoor
