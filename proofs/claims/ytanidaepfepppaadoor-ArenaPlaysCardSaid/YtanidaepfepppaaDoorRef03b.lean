/- The reference's slots: New, Free, Put. -/
import Derived.Test.YtanidaepfepppaaDoorRef03
namespace Go.Proofs.YtanidaepfepppaaDoor
open Go.RowKit

theorem newL_succ (k : Nat) : newL (0 : Int) (k + 1) = newL 0 k ++ [⟨1, false, 0⟩] := List.replicate_succ'
theorem openAt_of : ∀ (l : List ISlot) (k j : Nat) (hj : j < l.length), (l[j]).open = true → (∀ i (hi : i < j), (l[i]'(by omega)).open = false) → openAt l k = some (k + j)
  | s :: t, k, 0, _, h, _ => by simp only [List.getElem_cons_zero] at h; simp [openAt, h]
  | s :: t, k, j + 1, hj, h, hb => by
    have h0 := hb 0 (by omega)
    simp only [List.getElem_cons_zero] at h0
    have := openAt_of t (k + 1) j (by simpa using hj) (by simpa using h) (fun i hi => by simpa using hb (i + 1) (by omega))
    simp only [openAt, h0]
    rw [if_neg (by decide), this]
    congr 1; omega
theorem openAt_no : ∀ (l : List ISlot) (k : Nat), (∀ i (hi : i < l.length), (l[i]).open = false) → openAt l k = none
  | [], _, _ => rfl
  | s :: t, k, h => by
    have h0 := h 0 (by simp)
    simp only [List.getElem_cons_zero] at h0
    simp only [openAt, h0]
    rw [if_neg (by decide)]
    exact openAt_no t (k + 1) (fun i hi => h (i + 1) (by simp only [List.length_cons]; omega))
theorem results_tmp4 {fn : Func} {t u v x : Tmp} (h : fn.results = #[.tmp t, .tmp u, .tmp v, .tmp x]) (tmps : Array Value) (P : Program) (w : World) :
    (results fn tmps).run P w = .ok (.tuple #[tmps.getD t undef, tmps.getD u undef, tmps.getD v undef, tmps.getD x undef]) w := by
  simp [results, h]
/-- What a call of the reference's leaves: a list in new memory, or the old one. -/
def SlotsN (w : World) (v u : Value) (l : List ISlot) (w' : World) : Prop := Slots w' u l ∧ (u = v ∨ ∃ e, RowS 3 w.heap.size e w' u (l.map rEl)) ∧ Keeps w w'
theorem slotsN_of {w w' : World} {v u : Value} {e : TypeId} {l : List ISlot} (hr : RowS 3 w.heap.size e w' u (l.map rEl)) (hk : Keeps w w') : SlotsN w v u l w' :=
  ⟨hr.slcs, .inr ⟨e, hr⟩, hk⟩
set_option maxRecDepth 100000 in
set_option maxHeartbeats 1000000 in
theorem rNew_any (n : Nat) (w : World) (h64 : n ≤ 64) :
    Calls Tryd.prog 19 #[.int .i64 n] w fun e w' => ∃ u, e = .returned u ∧ SlotsN w (.slice none 0 0) u (newL 0 n) w' := by
  go_enter Tryd.func19, Tryd.ntmps19
  go_wp2_with fail
  go_loopw [3, 4] (fun u i wr => ∃ k : Nat, k ≤ n ∧ i = .int .i64 k ∧ RowS 3 w.heap.size 64 wr u ((newL 0 k).map rEl) ∧ Keeps w wr) (fun _ i _ => n - (intOf i).toNat)
  case atStart => exact ⟨0, Nat.zero_le _, rfl, RowS.nil _ _ _ _, Keeps.refl _⟩
  case round =>
    obtain ⟨k, hk, rfl, hrow, hK⟩ := hrel
    obtain ⟨q1, cap1, rfl⟩ := hrow.any
    have hlen : ((newL (0 : Int) k).map rEl).length = k := by simp [newL]
    rw [hlen] at hrow ⊢
    by_cases hlt : k < n
    · have hltI := Int.ofNat_lt.2 hlt
      have hsrc2 : SlcS 3 (wr.alloc (.cells (rEl ⟨1, false, 0⟩).toArray 64)) (.slice (some ⟨wr.heap.size, 0, none⟩) 1 1) ([(⟨1, false, 0⟩ : ISlot)].map rEl) := slcs_one (Blk.new wr _ _) rfl
      have hrow2 := hrow.alloc (.cells (rEl ⟨1, false, 0⟩).toArray 64)
      have hB1 := Keeps.alloc wr (.cells (rEl ⟨1, false, 0⟩).toArray 64)
      have hsz := hK.size
      replace hsrc2 := Lib.hid hsrc2
      replace hrow2 := Lib.hid hrow2
      replace hB1 := Lib.hid hB1
      replace hK := Lib.hid hK
      replace hlen := Lib.hid hlen
      clear hrow
      go_wp2_with (at_builtin; refine appN rfl _ _ 48 64 _ 3 24 rfl Tryd.underlying48 infoRS rfl (by decide) w.heap.size _ _ rfl hrow2.out _ _ rfl hsrc2.out (slots_one [(⟨1, false, 0⟩ : ISlot)]) ?c1 ?c2 ?c3 ?_)
      case c1 => have := hlen.out; rw [this]; simp; unfold maxLen; omega
      case c2 => have := hlen.out; rw [this]; simp; omega
      case c3 => (simp only [World.size_alloc]; omega)
      intro v2 W4 hrow _ hbel
      replace hrow : RowS 3 w.heap.size 64 W4 v2 ((newL 0 (k + 1)).map rEl) := by rw [newL_succ, List.map_append]; exact hrow
      have hK4 : Keeps w W4 := Below.trans hK.out (Below.trans (Below.mono hB1.out hsz) hbel)
      replace hrow := Lib.hid hrow
      replace hK4 := Lib.hid hK4
      clear hbel
      go_wp2_with fail
      go_roundw
      case rel => exact ⟨k + 1, by omega, by go_num, hrow.out, hK4.out⟩
      case measure => (simp [intOf]; try omega)
    · obtain rfl : k = n := by omega
      replace hrow := Lib.hid hrow
      replace hlen := Lib.hid hlen
      go_wp2_with fail
      go_ret
      exact ⟨_, rfl, slotsN_of hrow.out hK⟩
set_option maxRecDepth 100000 in
set_option maxHeartbeats 2000000 in
theorem rFree_any (v : Value) (l : List ISlot) (s g : Int) (w : World) (hv : Slots w v l) (h64 : l.length ≤ 64) (hok : ArOk l) :
    Calls Tryd.prog 21 #[v, .int .i64 s, .int .i64 g] w fun e w' => ∃ u, e = .returned (.tuple #[u, .int .i64 (findE l s g)]) ∧ SlotsN w v u (freeL 0 l s g) w' := by
  have hf := rFind_any v l s g w hv
  unfold freeL
  rcases ArI.findE_cases l s g with hE | hE | hE
  · rw [if_pos hE]
    obtain ⟨k, rfl, hk, hu, rfl⟩ := ArI.findE_yes hE
    rw [hE] at hf ⊢
    have hB0 := Keeps.alloc w (.cells #[] 64)
    have hsrc := hv.keeps hB0
    obtain ⟨p, cap, rfl, hl, hc, _⟩ := hv.get
    have hfr : freeAt (0 : Int) l k = l.set k ⟨l[k].gen + 1, false, 0⟩ := modify_set l k hk _
    rw [Int.toNat_natCast, hfr]
    have hg256 := (hok.gen _ (List.getElem_mem hk)).2
    generalize hGG : l[k].gen = G at *
    have hwr : IntKind.i64.wrap ((G : Int) + 1) = (G : Int) + 1 := IntWalk.i64_in _ (by omega)
    replace hf := Lib.hid hf
    replace hB0 := Lib.hid hB0
    replace hsrc := Lib.hid hsrc
    replace hE := Lib.hid hE
    replace hfr := Lib.hid hfr
    clear hv hu
    go_enter Tryd.func21, Tryd.ntmps21
    go_wp2_with fail
    refine hf.out.mono ?_
    rintro e w' ⟨rfl, rfl⟩
    go_wp2_with (at_builtin; refine appN rfl _ _ 48 64 _ 3 24 rfl Tryd.underlying48 infoRS rfl (by decide) w.heap.size _ [] rfl (RowS.empty 3 _ _ w (Nat.le_refl _)) _ (l.map rEl) rfl hsrc.out (slots_one l) ?c1 ?c2 ?c3 ?_)
    case c1 => simp; unfold maxLen; omega
    case c2 => simp; omega
    case c3 => exact hB0.out.size
    intro v1 W3 hrow _ hbel
    replace hrow : RowS 3 w.heap.size 64 W3 v1 (l.map rEl) := by simpa using hrow
    have hK3 : Keeps w W3 := Below.trans hB0.out hbel
    obtain ⟨g1, cap1, rfl, hg1⟩ := hrow.slice (by simp; omega)
    rw [List.length_map] at *
    have z0 := hrow.cells k 0 (by simpa using hk) (by decide)
    have z1 := hrow.cells k 1 (by simpa using hk) (by decide)
    have z2 := hrow.cells k 2 (by simpa using hk) (by decide)
    have f0 := hrow.frozen (k * 3)
    have f1 := hrow.frozen (k * 3 + 1)
    have f2 := hrow.frozen (k * 3 + 2)
    simp [List.getD, hk, rEl] at z0 z1 z2
    have hkI := Int.ofNat_lt.2 hk
    replace hrow := Lib.hid hrow
    replace hK3 := Lib.hid hK3
    clear hbel
    go_wp2_with fail
    go_ret2
    have hr3 := ((hrow.out.setCell k 0 (by simpa using hk) (by decide) (.int .i64 ((G : Int) + 1))).setCell k 1 (by simpa using hk) (by decide) (.bool false)).setCell k 2 (by simpa using hk) (by decide) (.int .i64 0)
    have he : ((((l.map rEl).set k (((l.map rEl).getD k []).set 0 (.int .i64 ((G : Int) + 1)))).set k ((((l.map rEl).set k (((l.map rEl).getD k []).set 0 (.int .i64 ((G : Int) + 1)))).getD k []).set 1 (.bool false))).set k (((((l.map rEl).set k (((l.map rEl).getD k []).set 0 (.int .i64 ((G : Int) + 1)))).set k ((((l.map rEl).set k (((l.map rEl).getD k []).set 0 (.int .i64 ((G : Int) + 1)))).getD k []).set 1 (.bool false))).getD k []).set 2 (.int .i64 0))) = (l.set k ⟨G + 1, false, 0⟩).map rEl := by
      rw [List.map_set]
      simp [List.getD, hk, rEl]
    rw [he] at hr3
    have hk4 := Chg.keeps (S := (· = g1)) (((Chg.setCell (S := (· = g1)) (k * 3 + 0) (.int .i64 ((G : Int) + 1)) rfl).trans (Chg.setCell (S := (· = g1)) (k * 3 + 1) (.bool false) rfl)).trans (Chg.setCell (S := (· = g1)) (k * 3 + 2) (.int .i64 0) rfl)) hK3.out (fun j hj => by omega)
    exact ⟨_, rfl, slotsN_of hr3 hk4⟩
  all_goals
    rw [if_neg (by rw [hE]; decide)]
    rw [hE] at hf ⊢
    obtain ⟨p, cap, hvv, hl, hc, _⟩ := hv.get
    have hne : (findE l s g != 0) = true := by rw [hE]; rfl
    clear hne
    replace hf := Lib.hid hf
    replace hE := Lib.hid hE
    replace hv := Lib.hid hv
    subst hvv
    go_enter Tryd.func21, Tryd.ntmps21
    go_wp2_with fail
    refine hf.out.mono ?_
    rintro e w' ⟨rfl, rfl⟩
    go_wp2_with fail
    go_ret2
    exact ⟨_, rfl, hv.out, .inl rfl, Keeps.refl _⟩
set_option maxRecDepth 100000 in
set_option maxHeartbeats 2000000 in
/-- Put of the reference: the list in new memory. -/
theorem rPut_any (v : Value) (l : List ISlot) (x : Int) (w : World) (hv : Slots w v l) (h64 : l.length ≤ 64) :
    Calls Tryd.prog 20 #[v, .int .i64 x] w fun e w' => ∃ u, e = .returned (.tuple #[u, .int .i64 (((openAt l 0).getD 0 : Nat) : Int), .int .i64 ((((openAt l 0).bind fun i => (l[i]?).map (·.gen)).getD 0 : Nat) : Int), .int .i64 (if openAt l 0 = none then 3 else 0)]) ∧ SlotsN w v u (putL l x) w' := by
  generalize hA : (openAt l 0).getD 0 = A
  generalize hB : ((openAt l 0).bind fun i => (l[i]?).map (·.gen)).getD 0 = B
  generalize hC : (if openAt l 0 = none then (3 : Int) else 0) = C
  replace hA := Lib.hid hA
  replace hB := Lib.hid hB
  replace hC := Lib.hid hC
  have hB0 := Keeps.alloc w (.cells #[] 64)
  have hsrc := hv.keeps hB0
  obtain ⟨p, cap, rfl, hl, hc, _⟩ := hv.get
  replace hB0 := Lib.hid hB0
  replace hsrc := Lib.hid hsrc
  clear hv
  go_enter Tryd.func20, Tryd.ntmps20
  go_wp2_with (at_builtin; refine appN rfl _ _ 48 64 _ 3 24 rfl Tryd.underlying48 infoRS rfl (by decide) w.heap.size _ [] rfl (RowS.empty 3 _ _ w (Nat.le_refl _)) _ (l.map rEl) rfl hsrc.out (slots_one l) ?c1 ?c2 ?c3 ?_)
  case c1 => simp; unfold maxLen; omega
  case c2 => simp; omega
  case c3 => exact hB0.out.size
  intro v1 W3 hrow _ hbel
  replace hrow : RowS 3 w.heap.size 64 W3 v1 (l.map rEl) := by simpa using hrow
  have hK3 : Keeps w W3 := Below.trans hB0.out hbel
  obtain ⟨q1, cap1, rfl⟩ := hrow.any
  rw [List.length_map] at hrow ⊢
  replace hrow := Lib.hid hrow
  replace hK3 := Lib.hid hK3
  clear hbel hsrc hB0
  go_wp2_with fail
  go_loopw [9] (fun i wr => ∃ k : Nat, k ≤ l.length ∧ i = .int .i64 k ∧ (∀ i (hi : i < k) (h2 : i < l.length), (l[i]).open = false) ∧ wr = W3) (fun i _ => l.length - (intOf i).toNat)
  case atStart => exact ⟨0, Nat.zero_le _, rfl, fun i hi => absurd hi (Nat.not_lt_zero i), rfl⟩
  case round =>
    obtain ⟨k, hk, rfl, hno, rfl⟩ := hrel
    by_cases hlt : k < l.length
    · obtain ⟨g1, cap2, hv1, hg1⟩ := hrow.out.slice (by simp; omega)
      simp only [List.length_map, Value.slice.injEq, true_and] at hv1
      obtain ⟨rfl, rfl⟩ := hv1
      have z0 := hrow.out.cells k 0 (by simpa using hlt) (by decide)
      have z1 := hrow.out.cells k 1 (by simpa using hlt) (by decide)
      have z2 := hrow.out.cells k 2 (by simpa using hlt) (by decide)
      have f1 := hrow.out.frozen (k * 3 + 1)
      have f2 := hrow.out.frozen (k * 3 + 2)
      simp [List.getD, hlt, rEl] at z0 z1 z2
      have hltI := Int.ofNat_lt.2 hlt
      try push_cast at hltI
      have hnext : (l[k]).open = false → ∀ i (hi : i < k + 1) (h2 : i < l.length), (l[i]).open = false := fun ho i hi h2 => by
        by_cases e : i = k
        · subst e; exact ho
        · exact hno i (by omega) h2
      cases hu : l[k].used with
      | true =>
        rw [hu] at z1
        have hn := hnext (by simp [Slot.open, hu])
        replace hn := Lib.hid hn
        replace hno := Lib.hid hno
        replace hu := Lib.hid hu
        clear hnext
        go_wp2_with fail
        go_roundw
        case rel => exact ⟨k + 1, by omega, by go_num, hn.out, by first | rfl | trivial⟩
        case measure => (simp [intOf]; try omega)
      | false =>
        rw [hu] at z1
        by_cases hg : l[k].gen ≤ 255
        · have ho : (l[k]).open = true := by simp [Slot.open, hu, hg]
          have hop := openAt_of l 0 k hlt ho (fun i hi => hno i hi (by omega))
          rw [Nat.zero_add] at hop
          have hput : putL l x = l.set k ⟨l[k].gen, true, x⟩ := by unfold putL; rw [hop]; exact modify_set l k hlt _
          have hgI : (l[k].gen : Int) ≤ 255 := by omega
          generalize hGG : l[k].gen = G at *
          replace hop := Lib.hid hop
          replace hput := Lib.hid hput
          replace hGG := Lib.hid hGG
          replace hno := Lib.hid hno
          replace hu := Lib.hid hu
          clear hnext ho
          go_upto_region 7 with (fail)
          refine wp_gen (fun W => RowS 3 w.heap.size 64 W (.slice (some ⟨g1, 0, none⟩) l.length cap1) ((l.set k ⟨G, true, x⟩).map rEl) ∧ Keeps w W)
            ⟨by
              have hr2 := (hrow.out.setCell k 1 (by simpa using hlt) (by decide) (.bool true)).setCell k 2 (by simpa using hlt) (by decide) (.int .i64 x)
              have he : ((l.map rEl).set k (((l.map rEl).getD k []).set 1 (.bool true))).set k ((((l.map rEl).set k (((l.map rEl).getD k []).set 1 (.bool true))).getD k []).set 2 (.int .i64 x)) = (l.set k ⟨G, true, x⟩).map rEl := by
                rw [List.map_set]
                simp [List.getD, hlt, rEl, hGG.out]
              rw [he] at hr2
              exact hr2, Chg.keeps (S := (· = g1)) ((Chg.setCell (S := (· = g1)) _ _ rfl).trans (Chg.setCell (S := (· = g1)) _ _ rfl)) hK3.out (fun j hj => by omega)⟩ ?_
          rintro W5 ⟨hr5, hK5⟩
          have y0 := hr5.cells k 0 (by simpa using hlt) (by decide)
          simp [List.getD, hlt, rEl] at y0
          replace hr5 := Lib.hid hr5
          replace hK5 := Lib.hid hK5
          clear z0 z1 z2 f1 f2
          go_quiet (fail)
          go_wp2_with fail
          refine bodyPost_ret (results_tmp4 rfl _ _ _) rfl ?_
          have eA : A = k := by rw [← hA.out, hop.out]; rfl
          have eB : B = G := by rw [← hB.out, hop.out, Option.bind_some, List.getElem?_eq_getElem hlt, Option.map_some, Option.getD_some, hGG.out]
          have eC : C = 0 := by rw [← hC.out, hop.out]; rfl
          rw [eA, eB, eC, hput.out]
          exact ⟨_, rfl, slotsN_of hr5.out (Keeps.trans hK5.out (Keeps.drewN _ _))⟩
        · have hn := hnext (by simp [Slot.open, hg])
          have hgI : ¬ (l[k].gen : Int) ≤ 255 := by omega
          generalize l[k].gen = G at *
          replace hn := Lib.hid hn
          replace hno := Lib.hid hno
          replace hu := Lib.hid hu
          clear hnext
          go_wp2_with fail
          go_roundw
          case rel => exact ⟨k + 1, by omega, by go_num, hn.out, by first | rfl | trivial⟩
          case measure => (simp [intOf]; try omega)
    · obtain rfl : k = l.length := by omega
      have hop := openAt_no l 0 (fun i hi => hno i hi hi)
      have hput : putL l x = l := by unfold putL; rw [hop]
      replace hop := Lib.hid hop
      replace hput := Lib.hid hput
      replace hno := Lib.hid hno
      go_wp2_with fail
      refine bodyPost_ret (results_tmp4 rfl _ _ _) rfl ?_
      have eA : A = 0 := by rw [← hA.out, hop.out]; rfl
      have eB : B = 0 := by rw [← hB.out, hop.out]; rfl
      have eC : C = 3 := by rw [← hC.out, hop.out]; rfl
      rw [eA, eB, eC, hput.out]
      exact ⟨_, rfl, slotsN_of hrow.out hK3.out⟩
end Go.Proofs.YtanidaepfepppaaDoor
