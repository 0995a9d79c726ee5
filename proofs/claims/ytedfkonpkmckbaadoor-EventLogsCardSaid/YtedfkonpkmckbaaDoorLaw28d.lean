/- EventLogs: what a log tells is the document's. -/
import Derived.Test.YtedfkonpkmckbaaDoorLogF
import Derived.Test.YtedfkonpkmckbaaDoorLogI
namespace Go.Proofs.YtedfkonpkmckbaaDoor
open Go.RowKit

theorem row_ne_blk {W : World} {sz m : Nat} {e t : TypeId} {v : Value} {els : List (List Value)} {l : Nat} {cs : List Value} (h : RowS sz m e W v els) (hb : Blk W l t cs) (ht : t ≠ e) : v.ownBlock ≠ some l := by
  intro e1
  rcases h.1.2 with ⟨rfl, _⟩ | ⟨g, cap, cur, rfl, _, h4, _⟩
  · simp [Value.ownBlock] at e1
  · obtain rfl : g = l := by simpa [Value.ownBlock] using e1
    have h5 := hb.symm.trans h4
    simp at h5
    exact ht h5.2
theorem row_ne_row {W : World} {sz sz' m m' : Nat} {e e' : TypeId} {v v' : Value} {els els' : List (List Value)} (h : RowS sz m e W v els) (h' : RowS sz' m' e' W v' els') (ht : e ≠ e') (b : Nat) (hb : v.ownBlock = some b) : v'.ownBlock ≠ some b := by
  intro e1
  rcases h.1.2 with ⟨rfl, _⟩ | ⟨g, cap, cur, rfl, _, h4, _⟩
  · simp [Value.ownBlock] at hb
  · obtain rfl : g = b := by simpa [Value.ownBlock] using hb
    rcases h'.1.2 with ⟨rfl, _⟩ | ⟨g', cap', cur', rfl, _, h4', _⟩
    · simp [Value.ownBlock] at e1
    · obtain rfl : g' = g := by simpa [Value.ownBlock] using e1
      have h5 := h4.symm.trans h4'
      simp at h5
      exact ht h5.2
/-- What is put i-th: the first 20 events of each list. -/
def put20 (vs : List (Value × List EvS)) (i : Nat) : List EvS × Int := (vs.take i).foldl (fun s p => putS s (p.2.take 20)) ([], 0)
theorem put20_succ (vs : List (Value × List EvS)) (i : Nat) (h : i < vs.length) : put20 vs (i + 1) = putS (put20 vs i) (vs[i].2.take 20) := by
  unfold put20
  rw [List.take_succ_eq_append_getElem h, List.foldl_append]; rfl
theorem putS_off (m : List EvS) (j : Int) (xs : List EvS) : putS (m, j) xs = ((putS (m, 0) xs).1, j + (putS (m, 0) xs).2) := by
  induction xs generalizing m j with
  | nil => simp [putS]
  | cons e xs ih =>
    have e1 : ∀ s, putS s (e :: xs) = putS (put1 s e) xs := fun _ => rfl
    rw [e1, e1]
    unfold put1
    split
    · exact ih m j
    · split
      · rw [ih m (j + 1), ih m (0 + 1)]
        simp only [Prod.mk.injEq, true_and]
        omega
      · exact ih _ j
theorem put20_len (vs : List (Value × List EvS)) : ∀ i, (put20 vs i).1.length ≤ 4096
  | 0 => by unfold put20; simp
  | i + 1 => by
    by_cases h : i < vs.length
    · rw [put20_succ vs i h]; exact putS_len _ _ (put20_len vs i)
    · have h1 : put20 vs (i + 1) = put20 vs i := by unfold put20; rw [List.take_of_length_le (by omega), List.take_of_length_le (by omega)]
      rw [h1]; exact put20_len vs i
theorem put20_lost (vs : List (Value × List EvS)) : ∀ i, 0 ≤ (put20 vs i).2 ∧ (put20 vs i).2 ≤ 20 * (i : Int)
  | 0 => by unfold put20; simp
  | i + 1 => by
    have ih := put20_lost vs i
    by_cases h : i < vs.length
    · rw [put20_succ vs i h]
      have := putS_lost (vs[i].2.take 20) (put20 vs i)
      rw [List.length_take] at this
      omega
    · have h1 : put20 vs (i + 1) = put20 vs i := by unfold put20; rw [List.take_of_length_le (by omega), List.take_of_length_le (by omega)]
      rw [h1]; omega
theorem zip_from (n : Int) : ∀ (l : List EvS) (i : Nat), ((l.zipIdx i).filter (fun x => decide (n ≤ (x.2 : Int)))).map (·.1) = l.drop ((max n 0).toNat - i)
  | [], _ => by simp
  | e :: l, i => by
    have ih := zip_from n l (i + 1)
    rw [List.zipIdx_cons, List.filter_cons]
    by_cases h : n ≤ (i : Int)
    · have e1 : (max n 0).toNat - i = 0 := by omega
      have e2 : (max n 0).toNat - (i + 1) = 0 := by omega
      rw [e2] at ih
      simp only [h, decide_true, if_true, List.map_cons, e1, List.drop_zero]
      rw [ih, List.drop_zero]
    · have e1 : (max n 0).toNat - i = ((max n 0).toNat - (i + 1)) + 1 := by omega
      simp only [h, decide_false, Bool.false_eq_true, if_false]
      rw [ih, e1, List.drop_succ_cons]
theorem selF_after (n : Int) (l : List EvS) : selF (fun k _ => decide (n ≤ (k : Int))) l = l.drop (min (max n 0).toNat l.length) := by
  have h := zip_from n l 0
  rw [Nat.sub_zero] at h
  unfold selF
  rw [h]
  by_cases hle : (max n 0).toNat ≤ l.length
  · rw [Nat.min_eq_left hle]
  · rw [Nat.min_eq_right (by omega), List.drop_eq_nil_of_le (Nat.le_refl _), List.drop_eq_nil_of_le (by omega)]
theorem zip_filter (q : EvS → Bool) : ∀ (l : List EvS) (i : Nat), ((l.zipIdx i).filter (fun x => q x.1)).map (·.1) = l.filter q
  | [], _ => rfl
  | e :: l, i => by
    rw [List.zipIdx_cons, List.filter_cons, List.filter_cons]
    have ih := zip_filter q l (i + 1)
    cases q e with
    | true => simp only [if_true, List.map_cons]; rw [ih]
    | false => simp only [Bool.false_eq_true, if_false]; exact ih
theorem selF_of (ks : List Int) (l : List EvS) : selF (fun _ x => decide (x.k ∈ ks)) l = ofK ks l := zip_filter (fun x => decide (x.k ∈ ks)) l 0
set_option maxRecDepth 100000 in
set_option maxHeartbeats 8000000 in
theorem lawLogs28_any {w : World} {lv kv : Value} {vs : List (Value × List EvS)} {ks : List Int} (n : Int) (hl : Slc w lv (vs.map (·.1))) (hvs : ∀ p ∈ vs, SlcS 5 w p.1 (p.2.map evC)) (hi : Ints w kv ks) (hT : Tabs w) :
    Calls Tryd.prog 6 #[lv, kv, .int .i64 n] w fun r w' => r = .returned (.bool true) ∧ Keeps w w' := by
  obtain ⟨lq, lc, rfl, ll, lc', ln, lcel⟩ := hl
  rw [List.length_map] at ll lcel ⊢
  have hu := hi
  obtain ⟨kq, kc, rfl, kl, kc', kn, kcel⟩ := hu
  rw [List.length_map] at kl kcel ⊢
  unfold maxLen at lc' kc'
  have hx0 : (0 : Int) ≤ (vs.length : Int) := by omega
  have hy0 : (0 : Int) ≤ (ks.length : Int) := by omega
  have fk := fun (W : World) (h : Keeps w W) => known28_any W (hT.keeps h)
  replace fk := Lib.hid fk
  replace lcel := Lib.hid lcel
  replace hvs := Lib.hid hvs
  replace hi := Lib.hid hi
  clear hT kcel kn ln
  go_enter Tryd.func6, Tryd.ntmps6
  go_upto_region 5 with (fail)
  obtain ⟨k12, hk12⟩ : ∃ k, k = (min (ks.length : Int) 12).toNat := ⟨_, rfl⟩
  rw [← hk12]
  have hk12l : k12 ≤ ks.length := by omega
  have hi2 : Ints w (.slice kq k12 kc) (ks.take k12) := by
    have := Slc.take hi.out k12 (by rw [List.length_map]; exact hk12l)
    rw [← List.map_take] at this
    exact this
  have hkl : (ks.take k12).length = k12 := by rw [List.length_take]; omega
  generalize ks.take k12 = ks2 at *
  have hl := Blk.new w 35 [.slice none 0 0, .int .i64 0]
  have hk1 := Keeps.alloc w (.cells #[.slice none 0 0, .int .i64 0] 35)
  have hLg : LogAt _ w.heap.size w.heap.size (put20 vs 0).1 (put20 vs 0).2 (.slice none 0 0) := ⟨hl, RowS.nil 5 _ 28 _, by simp [Value.ownBlock], Nat.le_refl _⟩
  obtain ⟨l, el⟩ : ∃ l, l = w.heap.size := ⟨_, rfl⟩
  rw [← el] at hLg ⊢
  have hwl : w.heap.size ≤ l := by omega
  refine wp_gen (fun W => LogAt W l l (put20 vs 0).1 (put20 vs 0).2 (.slice none 0 0) ∧ Keeps w W) ⟨hLg, hk1⟩ ?_
  clear hLg hl hk1 el hi hk12
  rintro W ⟨hLg, hK⟩
  replace hLg := Lib.hid hLg
  replace hK := Lib.hid hK
  replace hi2 := Lib.hid hi2
  replace hkl := Lib.hid hkl
  go_wp2_with fail
  go_loopw [8, 9, 10] (fun mv lo iv wr => ∃ (i : Nat) (v : Value), i ≤ vs.length ∧ i ≤ 20 ∧ iv = .int .i64 (i : Int) ∧ lo = .int .i64 (put20 vs i).2 ∧ LogAt wr l l (put20 vs i).1 (put20 vs i).2 v ∧ RowS 5 0 24 wr mv ((put20 vs i).1.map evC) ∧ Keeps w wr) (fun _ _ iv _ => vs.length - (intOf iv).toNat)
  case atStart => exact ⟨0, _, Nat.zero_le _, Nat.zero_le _, rfl, rfl, hLg.out, RowS.nil _ _ _ _, hK.out⟩
  case round =>
    clear hLg hK
    obtain ⟨i, v, hi, hi20, rfl, rfl, hL, hM, hK⟩ := hrel
    have hi0 : (0 : Int) ≤ (i : Int) := by omega
    by_cases hlt : i < vs.length
    · have hltI := Int.ofNat_lt.2 hlt
      by_cases h20 : i < 20
      · have h20I : (i : Int) < 20 := by omega
        have hstep := put20_succ vs i hlt
        have hlen := put20_len vs i
        have hlost := put20_lost vs i
        obtain ⟨cb, off, rfl, hcell⟩ := lcel.out i hlt
        have e0 : (vs.map (·.1)).getD i undef = vs[i].1 := by simp [List.getD, hlt]
        rw [e0] at hcell
        have hxs := hvs.out vs[i] (List.getElem_mem hlt)
        generalize vs[i] = xv at *
        obtain ⟨xv, es⟩ := xv
        dsimp only at hxs hstep hcell
        obtain ⟨xq, xc, rfl, xl, xc', _⟩ := hxs.get
        rw [List.length_map] at xl hcell hxs
        have hc := kcell hK hcell
        obtain ⟨k20, hk20⟩ : ∃ k, k = (min (es.length : Int) 20).toNat := ⟨_, rfl⟩
        have hxs2 := hxs.take k20 (by rw [List.length_map]; omega)
        have htk : es.take 20 = es.take k20 := List.take_eq_take_iff.2 (by omega)
        have hxl : (es.take k20).length = k20 := by rw [List.length_take]; omega
        have hk2020 : k20 ≤ 20 := by omega
        have he0 : (0 : Int) ≤ (es.length : Int) := by omega
        rw [← List.map_take] at hxs2
        rw [htk] at hstep
        generalize es.take k20 = xs at *
        generalize hss : put20 vs i = s at *
        replace hL := Lib.hid hL
        replace hM := Lib.hid hM
        replace hK := Lib.hid hK
        replace hxs2 := Lib.hid hxs2
        replace hstep := Lib.hid hstep
        replace hss := Lib.hid hss
        clear hcell e0 hxs
        go_upto_region 8 with (fail)
        go_quiet (fail)
        rename_i nq
        go_upto_region 9 with (fail)
        rw [← hk20]
        refine wp_gen (fun W => LogAt W l l s.1 s.2 v ∧ RowS 5 0 24 W u8 (s.1.map evC) ∧ SlcS 5 W (.slice xq k20 xc) (xs.map evC) ∧ Keeps w W) ⟨hL.out.keeps (Keeps.drewN _ _), rowS_keeps hM.out (Keeps.drewN _ _), (hxs2.out.below hK.out).below (Keeps.drewN _ _), Keeps.trans hK.out (Keeps.drewN _ _)⟩ ?_
        clear hL hM hK hxs2 hc htk hk20
        rintro W0 ⟨hL, hM, hX, hK⟩
        have hlW := hL.hdr.lt
        have hvW := hL.lt
        replace hL := Lib.hid hL
        replace hM := Lib.hid hM
        replace hK := Lib.hid hK
        replace hX := Lib.hid hX
        replace hvW := Lib.hid hvW
        go_wp2_with fail
        go_loopw [12, 13] (fun yv jv wr => ∃ j : Nat, j ≤ k20 ∧ jv = .int .i64 (j : Int) ∧ RowS 5 W0.heap.size 28 wr yv ((xs.take j).map evC) ∧ Keeps W0 wr) (fun _ jv _ => k20 - (intOf jv).toNat)
        case atStart => exact ⟨0, Nat.zero_le _, rfl, RowS.nil _ _ _ _, Keeps.refl _⟩
        case round =>
          obtain ⟨j, hj, rfl, hY, hKj⟩ := hrel
          have hj0 : (0 : Int) ≤ (j : Int) := by omega
          have hk0 : (0 : Int) ≤ (k20 : Int) := by omega
          by_cases hjl : j < k20
          · have hjI := Int.ofNat_lt.2 hjl
            have hjx : j < xs.length := by omega
            obtain ⟨xq', xc', hxe, _, _, hxcell⟩ := hX.out.get
            obtain ⟨xb, xo, hxq', hxcell⟩ := hxcell j (by rw [List.length_map]; exact hjx)
            simp only [Value.slice.injEq] at hxe
            obtain rfl : xq = some ⟨xb, xo, none⟩ := hxe.1.trans hxq'
            have e0 : (xs.map evC).getD j [] = evC xs[j] := by simp [List.getD, hjx]
            rw [e0] at hxcell
            have hsc : xs.take (j + 1) = xs.take j ++ [xs[j]] := List.take_succ_eq_append_getElem hjx
            generalize xs[j] = e at *
            have fo := fun (W : World) => to_any e W
            have hsl : (xs.take j).length = j := by rw [List.length_take]; omega
            generalize xs.take j = pre at *
            obtain ⟨oq, oc, hos, _⟩ := hY.slcs.get
            rw [List.length_map, hsl] at hos
            subst hos
            replace hsl := Lib.hid hsl
            obtain ⟨t, kd, a, b, n2⟩ := e
            obtain ⟨x0, x1, x2, x3, x4⟩ := evCells (fun i hi => kcell hKj (hxcell i hi))
            have hlen1 : (pre.map evC).length + [evC ⟨t, kd, a, b, n2⟩].length ≤ maxLen := by rw [List.length_map, hsl.out]; simp only [maxLen, List.length_singleton]; omega
            have hlen2 : ((pre.map evC).length + [evC ⟨t, kd, a, b, n2⟩].length) * 40 ≤ 140737488355328 := by rw [List.length_map, hsl.out]; simp only [List.length_singleton]; omega
            replace hsc := Lib.hid hsc
            replace hY := Lib.hid hY
            replace hKj := Lib.hid hKj
            replace fo := Lib.hid fo
            replace hlen1 := Lib.hid hlen1
            replace hlen2 := Lib.hid hlen2
            clear hxcell e0 hxe hxq'
            go_wp2_with fail
            with_reducible refine (fo.out _).mono ?_
            rintro r w2 ⟨rfl, hK2⟩
            have hY2 := rowS_keeps (rowS_keeps hY.out hK2) (Keeps.alloc w2 (.cells #[.int .u64 (t : Int), .int .i64 kd, .int .i64 a, .int .i64 b, .int .u64 (n2 : Int)] 28))
            have hKe := Keeps.trans (Keeps.trans hKj.out hK2) (Keeps.alloc w2 (.cells #[.int .u64 (t : Int), .int .i64 kd, .int .i64 a, .int .i64 b, .int .u64 (n2 : Int)] 28))
            have hsrc : SlcS 5 _ _ _ := slcs_one (Blk.new w2 28 (evC ⟨t, kd, a, b, n2⟩)) rfl
            replace hY2 := Lib.hid hY2
            replace hKe := Lib.hid hKe
            replace hsrc := Lib.hid hsrc
            clear hY hKj hK2 x0 x1 x2 x3 x4
            go_wp2_with (at_builtin; refine appN rfl _ _ 33 28 _ 5 40 rfl Tryd.underlying33 infoEv rfl (by decide) W0.heap.size _ _ rfl hY2.out _ [evC ⟨t, kd, a, b, n2⟩] rfl hsrc.out (fun el he => by obtain rfl := List.mem_singleton.1 he; exact evC_one _) hlen1.out hlen2.out hKe.out.size ?_; intro v3 w3 hown3 hgr3 hbel3; have hK3 := Lib.hid (Below.trans hKe.out hbel3); replace hown3 := Lib.hid hown3; clear hgr3 hbel3)
            go_roundw
            case rel => exact ⟨j + 1, by omega, by go_num, by rw [hsc.out, List.map_append]; exact hown3.out, hK3.out⟩
            case measure => (simp [intOf]; try omega)
          · obtain rfl : j = k20 := by omega
            rw [List.take_of_length_le (by omega)] at hY
            have hMj := rowS_keeps hM.out hKj
            have hrp := rput_any (xs := xs) hMj.slcs (hX.out.below hKj) hlen (by omega)
            have hp := putS_off s.1 s.2 xs
            have hrl := putS_len xs (s.1, 0) hlen
            have hrg := putS_grow xs (s.1, 0)
            have hrs := putS_lost xs (s.1, 0)
            obtain ⟨r, hr⟩ : ∃ r, r = putS (s.1, 0) xs := ⟨_, rfl⟩
            rw [← hr] at hp hrl hrg hrs hrp
            have hst := hstep.out
            rw [show putS s xs = (r.1, s.2 + r.2) from hp] at hst
            have hLj := hL.out.keeps hKj
            have hKj2 := Keeps.trans hK.out hKj
            have hvj : ∀ b, v.ownBlock = some b → b < W0.heap.size := hvW.out
            have hyl := hY.own
            obtain ⟨mq, mc, hms, _⟩ := hMj.slcs.get
            rw [List.length_map] at hms
            subst hms
            replace hrp := Lib.hid hrp
            replace hMj := Lib.hid hMj
            replace hLj := Lib.hid hLj
            replace hKj2 := Lib.hid hKj2
            replace hY := Lib.hid hY
            replace hp := Lib.hid hp
            replace hr := Lib.hid hr
            replace hst := Lib.hid hst
            replace hvj := Lib.hid hvj
            replace hyl := Lib.hid hyl
            clear hstep hL hM hK hX hvW hKj
            simp only at hrg hrs
            go_wp2_with fail
            with_reducible refine (hrp.out).mono ?_
            rintro e w3 ⟨u, rfl, hU, hK3⟩
            have hput := lput_any (hLj.out.keeps hK3) (rowS_keeps hY.out hK3).slcs (fun b hb e => by
              have h1 := hyl.out b hb
              rcases e with e | e
              · omega
              · have := hvj.out b e; omega) hlen (by omega) (by omega)
            rw [show putS (s.1, s.2) xs = (r.1, s.2 + r.2) from hp.out] at hput
            have hKe := Keeps.trans hKj2.out hK3
            have hvo := hLj.out.row.own
            have hu24 : ∀ b, u.ownBlock = some b → ¬ LW l v b := fun b hb e => by
              have h3 := hLj.out.keeps hK3
              rcases e with e | e
              · exact row_ne_blk hU h3.hdr (by decide) (e ▸ hb)
              · exact row_ne_row hU h3.row (by decide) b hb e
            obtain ⟨uq, uc, hus, _⟩ := hU.slcs.get
            rw [List.length_map] at hus
            subst hus
            replace hU := Lib.hid hU
            replace hput := Lib.hid hput
            replace hKe := Lib.hid hKe
            replace hvo := Lib.hid hvo
            replace hu24 := Lib.hid hu24
            clear hrp hMj hLj hKj2 hY hvj hyl hK3
            have hwr : IntKind.i64.wrap ((r.1.length : Int) - (s.1.length : Int)) = (r.1.length : Int) - (s.1.length : Int) := IntWalk.i64_in _ (by omega)
            go_wp2_with fail
            with_reducible refine (hput.out).mono ?_
            rintro e w5 ⟨rfl, v', hL5, hO5, hC5⟩
            have hU5 := rowS_chg hU.out hC5 hu24.out
            have hK5 := Chg.keeps hC5 hKe.out (fun b hb' e => by
              rcases e with e | e
              · omega
              · have := hvo.out b e; omega)
            have hwr2 : IntKind.i64.wrap (s.2 + r.2) = s.2 + r.2 := IntWalk.i64_in _ (by omega)
            replace hL5 := Lib.hid hL5
            replace hU5 := Lib.hid hU5
            replace hK5 := Lib.hid hK5
            clear hU hput hKe hvo hu24 hC5 hO5
            go_upto_region 19 with (fail)
            obtain ⟨f, hf⟩ : ∃ f : Nat, (f : Int) = min (max n 0) (r.1.length : Int) := ⟨(min (max n 0) (r.1.length : Int)).toNat, by omega⟩
            rw [← hf]
            have hf0 : (0 : Int) ≤ (f : Int) := by omega
            have hfl : f ≤ r.1.length := by omega
            have hflI : (f : Int) ≤ (r.1.length : Int) := by omega
            have hff : f = (min (max n 0).toNat r.1.length) := by omega
            have cLen := fun (W : World) (h : Keeps w5 W) => len_any28 (hL5.out.keeps h)
            have cLost := fun (W : World) (h : Keeps w5 W) => lost_any28 (hL5.out.keeps h)
            have cList := fun (W : World) (h : Keeps w5 W) => list_any28 (hL5.out.keeps h) hrl
            have cOf := fun (W : World) (h : Keeps w5 W) => of_any (Slc.below (Slc.below hi2.out hK5.out) h) (hL5.out.keeps h) hrl
            have crOf := fun (W : World) (h : Keeps w5 W) => rof_any (rowS_keeps hU5.out h).slcs (Slc.below (Slc.below hi2.out hK5.out) h) hrl
            have cAfter := fun (W : World) (h : Keeps w5 W) => after_any n (hL5.out.keeps h) hrl
            simp only [selF_of, selF_after, ← hff] at cOf cAfter
            have hUs := hU5.out.slcs
            replace cLen := Lib.hid cLen
            replace cLost := Lib.hid cLost
            replace cList := Lib.hid cList
            replace cOf := Lib.hid cOf
            replace crOf := Lib.hid crOf
            replace cAfter := Lib.hid cAfter
            replace hff := Lib.hid hff
            replace hf := Lib.hid hf
            rcases hU5.out.1.2 with ⟨he, h0⟩ | ⟨g, cap, cur, he, _, _, hcap, _⟩
            · simp only [Value.slice.injEq] at he
              obtain ⟨rfl, hl0, rfl⟩ := he
              obtain rfl : f = 0 := by omega
              rw [hl0] at hUs
              have hD : SlcS 5 w5 (.slice none 0 0) ((r.1.drop 0).map evC) := by rw [List.drop_zero]; exact hUs
              have hlo := cLen.out
              have hro := crOf.out
              rw [hl0] at hlo hro
              replace cLen := Lib.hid hlo
              replace crOf := Lib.hid hro
              replace hD := Lib.hid hD
              replace hUs := Lib.hid hUs
              rw [hl0]
              replace hl0 := Lib.hid hl0
              clear hlo hro
              go_region_held3 (fun w' => Keeps w5 w')
                (first | assumption | exact Keeps.drew _)
                (first
                  | (go_at_call 17; with_reducible refine (cLen.out _ (by assumption)).mono ?_; rintro e w' ⟨rfl, rfl⟩)
                  | (go_at_call 16; with_reducible refine (cLost.out _ (by assumption)).mono ?_; rintro e w' ⟨rfl, rfl⟩)
                  | (go_at_call 15; with_reducible refine (cList.out _ (by assumption)).mono ?_; rintro e w6 ⟨u1, rfl, hu1, hk6⟩; have hS6 := Keeps.trans (by assumption) hk6; have hA1 := hu1.slcs; have hB1 := SlcS.below hUs.out hS6; clear hu1)
                  | (go_at_call 20; with_reducible refine (cOf.out _ (by assumption)).mono ?_; rintro e w7 ⟨u2, rfl, hu2, hk7⟩; have hS7 := Keeps.trans (by assumption) hk7; have hA2 := Lib.hid (fun W (h : Keeps w7 W) => (rowS_keeps hu2 h).slcs); clear hu2)
                  | (go_at_call 21; with_reducible refine (crOf.out _ (by assumption)).mono ?_; rintro e w8 ⟨u3, rfl, hu3, hk8⟩; have hS8 := Keeps.trans (by assumption) hk8; have hA3 := Lib.hid (fun W (h : Keeps w8 W) => (rowS_keeps hu3 h).slcs); clear hu3)
                  | (go_at_call 22; with_reducible refine (cAfter.out _ (by assumption)).mono ?_; rintro e w9 ⟨u4, rfl, hu4, hk9⟩; have hS9 := Keeps.trans (by assumption) hk9; have hA4 := hu4.slcs; have hB4 := SlcS.below hD.out hS9; clear hu4)
                  | (go_at_call 19; with_reducible refine (same_any hA1 hB1).mono ?_; rintro e wa ⟨rfl, hka⟩; have hSa := Keeps.trans (by assumption) hka; clear hA1 hB1)
                  | (go_at_call 19; with_reducible refine (same_any (hA2.out _ (by first | exact Keeps.refl _ | assumption)) (hA3.out _ (by first | exact Keeps.refl _ | assumption))).mono ?_; rintro e wb ⟨rfl, hkb⟩; have hSb := Keeps.trans (by assumption) hkb; clear hA2 hA3)
                  | (go_at_call 19; with_reducible refine (same_any hA4 hB4).mono ?_; rintro e wz ⟨rfl, hkz⟩; have hSz := Keeps.trans (by assumption) hkz; clear hA4 hB4))
              all_goals
                have hLz := Lib.hid (hL5.out.keeps hSz)
                have hUz := RowS.base_le (rowS_keeps hU5.out hSz) (Nat.zero_le _)
                rw [hl0.out] at hUz
                replace hUz := Lib.hid hUz
                have hKz := Lib.hid (Keeps.trans hK5.out hSz)
                clear hL5 hU5 hK5 cLen cLost cList cOf crOf cAfter hD hUs
                go_wp2_with fail
                go_roundw
                case rel => exact ⟨i + 1, v', by omega, by omega, by go_num, by rw [hst.out], by rw [hst.out]; exact hLz.out, by rw [hst.out]; exact hUz.out, hKz.out⟩
                case measure => (simp [intOf]; try omega)
            · simp only [Value.slice.injEq] at he
              obtain ⟨rfl, -, rfl⟩ := he
              obtain ⟨ad, had, -, hD⟩ := SlcS.dropAny hUs f (by rw [List.length_map]; exact hfl)
              rw [← List.map_drop, ← had] at hD
              clear had
              rw [List.length_map] at hcap
              have hcapI : (r.1.length : Int) ≤ (uc : Int) := by omega
              by_cases hcf : uc = f
              · rw [if_pos hcf] at hD
                subst hcf
                rw [show r.1.length - uc = 0 by omega, show uc - uc = 0 by omega] at hD
                replace hD := Lib.hid hD
                replace hUs := Lib.hid hUs
                go_region_held3 (fun w' => Keeps w5 w')
                  (first | assumption | exact Keeps.drew _)
                  (first
                    | (go_at_call 17; with_reducible refine (cLen.out _ (by assumption)).mono ?_; rintro e w' ⟨rfl, rfl⟩)
                    | (go_at_call 16; with_reducible refine (cLost.out _ (by assumption)).mono ?_; rintro e w' ⟨rfl, rfl⟩)
                    | (go_at_call 15; with_reducible refine (cList.out _ (by assumption)).mono ?_; rintro e w6 ⟨u1, rfl, hu1, hk6⟩; have hS6 := Keeps.trans (by assumption) hk6; have hA1 := hu1.slcs; have hB1 := SlcS.below hUs.out hS6; clear hu1)
                    | (go_at_call 20; with_reducible refine (cOf.out _ (by assumption)).mono ?_; rintro e w7 ⟨u2, rfl, hu2, hk7⟩; have hS7 := Keeps.trans (by assumption) hk7; have hA2 := Lib.hid (fun W (h : Keeps w7 W) => (rowS_keeps hu2 h).slcs); clear hu2)
                    | (go_at_call 21; with_reducible refine (crOf.out _ (by assumption)).mono ?_; rintro e w8 ⟨u3, rfl, hu3, hk8⟩; have hS8 := Keeps.trans (by assumption) hk8; have hA3 := Lib.hid (fun W (h : Keeps w8 W) => (rowS_keeps hu3 h).slcs); clear hu3)
                    | (go_at_call 22; with_reducible refine (cAfter.out _ (by assumption)).mono ?_; rintro e w9 ⟨u4, rfl, hu4, hk9⟩; have hS9 := Keeps.trans (by assumption) hk9; have hA4 := hu4.slcs; have hB4 := SlcS.below hD.out hS9; clear hu4)
                    | (go_at_call 19; with_reducible refine (same_any hA1 hB1).mono ?_; rintro e wa ⟨rfl, hka⟩; have hSa := Keeps.trans (by assumption) hka; clear hA1 hB1)
                    | (go_at_call 19; with_reducible refine (same_any (hA2.out _ (by first | exact Keeps.refl _ | assumption)) (hA3.out _ (by first | exact Keeps.refl _ | assumption))).mono ?_; rintro e wb ⟨rfl, hkb⟩; have hSb := Keeps.trans (by assumption) hkb; clear hA2 hA3)
                    | (go_at_call 19; with_reducible refine (same_any hA4 hB4).mono ?_; rintro e wz ⟨rfl, hkz⟩; have hSz := Keeps.trans (by assumption) hkz; clear hA4 hB4))
                all_goals
                  have hLz := Lib.hid (hL5.out.keeps hSz)
                  have hUz := Lib.hid (RowS.base_le (rowS_keeps hU5.out hSz) (Nat.zero_le _))
                  have hKz := Lib.hid (Keeps.trans hK5.out hSz)
                  clear hL5 hU5 hK5 cLen cLost cList cOf crOf cAfter hD hUs
                  go_wp2_with fail
                  go_roundw
                  case rel => exact ⟨i + 1, v', by omega, by omega, by go_num, by rw [hst.out], by rw [hst.out]; exact hLz.out, by rw [hst.out]; exact hUz.out, hKz.out⟩
                  case measure => (simp [intOf]; try omega)
              · rw [if_neg hcf, Nat.zero_add] at hD
                replace hD := Lib.hid hD
                replace hUs := Lib.hid hUs
                go_region_held3 (fun w' => Keeps w5 w')
                  (first | assumption | exact Keeps.drew _)
                  (first
                    | (go_at_call 17; with_reducible refine (cLen.out _ (by assumption)).mono ?_; rintro e w' ⟨rfl, rfl⟩)
                    | (go_at_call 16; with_reducible refine (cLost.out _ (by assumption)).mono ?_; rintro e w' ⟨rfl, rfl⟩)
                    | (go_at_call 15; with_reducible refine (cList.out _ (by assumption)).mono ?_; rintro e w6 ⟨u1, rfl, hu1, hk6⟩; have hS6 := Keeps.trans (by assumption) hk6; have hA1 := hu1.slcs; have hB1 := SlcS.below hUs.out hS6; clear hu1)
                    | (go_at_call 20; with_reducible refine (cOf.out _ (by assumption)).mono ?_; rintro e w7 ⟨u2, rfl, hu2, hk7⟩; have hS7 := Keeps.trans (by assumption) hk7; have hA2 := Lib.hid (fun W (h : Keeps w7 W) => (rowS_keeps hu2 h).slcs); clear hu2)
                    | (go_at_call 21; with_reducible refine (crOf.out _ (by assumption)).mono ?_; rintro e w8 ⟨u3, rfl, hu3, hk8⟩; have hS8 := Keeps.trans (by assumption) hk8; have hA3 := Lib.hid (fun W (h : Keeps w8 W) => (rowS_keeps hu3 h).slcs); clear hu3)
                    | (go_at_call 22; with_reducible refine (cAfter.out _ (by assumption)).mono ?_; rintro e w9 ⟨u4, rfl, hu4, hk9⟩; have hS9 := Keeps.trans (by assumption) hk9; have hA4 := hu4.slcs; have hB4 := SlcS.below hD.out hS9; clear hu4)
                    | (go_at_call 19; with_reducible refine (same_any hA1 hB1).mono ?_; rintro e wa ⟨rfl, hka⟩; have hSa := Keeps.trans (by assumption) hka; clear hA1 hB1)
                    | (go_at_call 19; with_reducible refine (same_any (hA2.out _ (by first | exact Keeps.refl _ | assumption)) (hA3.out _ (by first | exact Keeps.refl _ | assumption))).mono ?_; rintro e wb ⟨rfl, hkb⟩; have hSb := Keeps.trans (by assumption) hkb; clear hA2 hA3)
                    | (go_at_call 19; with_reducible refine (same_any hA4 hB4).mono ?_; rintro e wz ⟨rfl, hkz⟩; have hSz := Keeps.trans (by assumption) hkz; clear hA4 hB4))
                all_goals
                  have hLz := Lib.hid (hL5.out.keeps hSz)
                  have hUz := Lib.hid (RowS.base_le (rowS_keeps hU5.out hSz) (Nat.zero_le _))
                  have hKz := Lib.hid (Keeps.trans hK5.out hSz)
                  clear hL5 hU5 hK5 cLen cLost cList cOf crOf cAfter hD hUs
                  go_wp2_with fail
                  go_roundw
                  case rel => exact ⟨i + 1, v', by omega, by omega, by go_num, by rw [hst.out], by rw [hst.out]; exact hLz.out, by rw [hst.out]; exact hUz.out, hKz.out⟩
                  case measure => (simp [intOf]; try omega)
      · have h20I : ¬ (i : Int) < 20 := by omega
        have hKd := Lib.hid hK
        have g := fk.out wr hK
        replace g := Lib.hid g
        clear hL hM hK
        go_wp2_with fail
        with_reducible refine (g.out).mono ?_
        rintro e w7 ⟨rfl, hK7⟩
        have hKz := Lib.hid (Keeps.trans hKd.out hK7)
        clear hK7 hKd g
        go_wp2_with fail
        go_ret
        exact ⟨rfl, hKz.out⟩
    · have hltI : ¬ (i : Int) < (vs.length : Int) := by omega
      have hKd := Lib.hid hK
      have g := fk.out wr hK
      replace g := Lib.hid g
      clear hL hM hK
      go_wp2_with fail
      with_reducible refine (g.out).mono ?_
      rintro e w7 ⟨rfl, hK7⟩
      have hKz := Lib.hid (Keeps.trans hKd.out hK7)
      clear hK7 hKd g
      go_wp2_with fail
      go_ret
      exact ⟨rfl, hKz.out⟩
end Go.Proofs.YtedfkonpkmckbaaDoor
