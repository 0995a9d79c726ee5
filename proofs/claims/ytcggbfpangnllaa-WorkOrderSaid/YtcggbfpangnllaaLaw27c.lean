/- The law WorkOrder. -/
import Derived.Test.YtcggbfpangnllaaWorkO
import Derived.Test.YtcggbfpangnllaaModn
import Derived.Deep.DeepCutAuto
import Derived.Deep.RegionHeld3
namespace Go.Proofs.Ytcggbfpangnllaa
open Go.RowKit i64

theorem row_chg {S : Nat → Prop} {W W' : World} {base : Nat} {e : TypeId} {v : Value} {n : Nat} {xs : List Value} (h : W.ownsRow base e 1 v n xs) (hc : Chg S W W') (hs : ∀ b, v.ownBlock = some b → ¬ S b) : W'.ownsRow base e 1 v n xs := by
  refine ⟨h.1, ?_⟩
  rcases h.2 with h0 | ⟨g, cap, cur, hv, hb, hg, hr⟩
  · exact .inl h0
  · exact .inr ⟨g, cap, cur, hv, hb, (hc.block g ((Array.getElem?_eq_some_iff.1 hg).1) (hs g (by rw [hv]; rfl))).trans hg, hr⟩
/-- What holds while WorkOrder goes: the works, the table, the row. -/
structure OW (w : World) (k p rb cap : Nat) (pp bb : Nat → Nat) (M B : Nat) (l : List Int) (f : Nat → Bool) (v : Value) (s : WS) (W : World) : Prop where
  wi : WI w k p rb cap 2 pp bb s W
  tab : Blk W M 28 (rowB f)
  row : W.ownsRow B 3 1 v l.length (l.map (Value.int .i64))
  own : w.heap.size ≤ M
  lowM : M < B
  lowF : ∀ b, FW k p rb 2 pp bb b → b < M
section
variable {w W W' : World} {k p rb cap M B : Nat} {pp bb : Nat → Nat} {l : List Int} {f : Nat → Bool} {v : Value} {s s' : WS}
theorem OW.turn (h : OW w k p rb cap pp bb M B l f v s W) (hi : WI w k p rb cap 2 pp bb s' W') (hC : Chg (FW k p rb 2 pp bb) W W') : OW w k p rb cap pp bb M B l f v s' W' :=
  ⟨hi, h.tab.chg hC (fun e => by have := h.lowF M e; omega), row_chg h.row hC (fun b hb hF => by have := (row_own h.row b hb).1; have := h.lowF b hF; have := h.lowM; omega), h.own, h.lowM, h.lowF⟩
theorem OW.kept (h : OW w k p rb cap pp bb M B l f v s W) (hk : Keeps W W') : OW w k p rb cap pp bb M B l f v s W' := h.turn (h.wi.kept hk) (Chg.of_keeps hk)
theorem OW.push (h : OW w k p rb cap pp bb M B l f v s W) {g cap' : Nat} {x : Int} {w1 : World} (hown : w1.ownsRow B 3 1 (.slice (some ⟨g, 0, none⟩) (l.length + 1) cap') (l.length + 1) (l.map (Value.int .i64) ++ [.int .i64 x]))
    (hgrow : (W.alloc (.cells #[.int .i64 x] 3)).grownBy w1 v.ownBlock) : OW w k p rb cap pp bb M B (l ++ [x]) f (.slice (some ⟨g, 0, none⟩) (l.length + 1) cap') s w1 := by
  have hC : Chg (fun i => v.ownBlock = some i) W w1 := ⟨hgrow.os, hgrow.tape, hgrow.output, Nat.le_trans (by simp) hgrow.size, fun i hi hn => (hgrow.block i (by simp; omega) (fun e => hn e.symm)).trans (Below.heap_alloc _ _ _ hi)⟩
  have hbs : ∀ i, v.ownBlock = some i → B ≤ i := fun i hi => (row_own h.row i hi).1
  have h1 := h.lowM
  have h2 := h.own
  refine ⟨h.wi.far hC (fun b hb => ?_), h.tab.chg hC (fun e => by have := hbs M e; omega), ?_, h.own, h.lowM, h.lowF⟩
  · have := hbs b hb
    exact ⟨fun hF => by have := h.lowF b (.inl hF); omega, fun e => by have := h.lowF b (.inr e); omega, by omega⟩
  · rw [List.length_append, List.length_singleton, List.map_append]
    exact hown
theorem OW.set (h : OW w k p rb cap pp bb M B l f v s W) (x : Nat) (b : Bool) {f' : Nat → Bool} (hf : ∀ j, j < 256 → (if j = x then b else f j) = f' j) : OW w k p rb cap pp bb M B l f' v s (W.setCell ⟨M, x, none⟩ (.bool b)) := by
  have hC : Chg (· = M) W (W.setCell ⟨M, x, none⟩ (.bool b)) := Chg.setCell _ _ rfl
  have h1 := h.lowM
  have h2 := h.own
  refine ⟨h.wi.far hC (fun j hj => ?_), ?_, row_chg h.row hC (fun i hi e => by have := (row_own h.row i hi).1; omega), h.own, h.lowM, h.lowF⟩
  · subst hj
    exact ⟨fun hF => by have := h.lowF _ (.inl hF); omega, fun e => by have := h.lowF _ (.inr e); omega, h2⟩
  · have := h.tab.set x (.bool b)
    rw [rowB_set, rowB_congr hf] at this
    exact this
theorem OW.post (h : OW w k p rb cap pp bb M B l f v s W) (hs : S1 l s) (x : Nat) (hx : x < 256) : Calls Try.prog 9 #[.pointer (some ⟨k, 0, none⟩), .int .i64 x, .int .i64 0] W fun e W' => e = .returned (.int .i64 0) ∧
    W'.cell? ⟨M, x, none⟩ = some (.bool (f x)) ∧ Calls Try.prog 10 #[.pointer (some ⟨k, 0, none⟩), .int .i64 x, .int .i64 1] W' fun e2 W2 => e2 = .returned (.int .i64 (if (x : Int) ∈ l then 5 else 0)) ∧ W2.cell? ⟨M, x, none⟩ = some (.bool (f x)) ∧
      ∃ s2, OW w k p rb cap pp bb M B l f v s2 W2 ∧ S1 (if (x : Int) ∈ l then l else l ++ [(x : Int)]) s2 := by
  refine (h.wi.set x 0).mono ?_
  rw [hs.set x hx]
  rintro e W1 ⟨he, hI, hC⟩
  have h1 := h.turn hI hC
  refine ⟨he, h1.tab.cellK (rowB_get f x hx), (hI.post x 1).mono ?_⟩
  obtain ⟨e1, e2⟩ := hs.post x hx
  rintro e W2 ⟨he, hI2, hC2⟩
  rw [e1] at he
  have h2 := h1.turn hI2 hC2
  exact ⟨he, h2.tab.cellK (rowB_get f x hx), _, h2, e2⟩
theorem OW.end' (h : OW w k p rb cap pp bb M B l f v s W) {j : Nat} (hs : S2 l j s) (t : Nat) (ht : t < 3) : Calls Try.prog 14 #[.pointer (some ⟨k, 0, none⟩), .int .i64 t] W fun e W' => ∃ a b, e = .returned (.tuple #[.int .i64 a, .int .i64 b]) ∧
    ∃ s2, OW w k p rb cap pp bb M B l f v s2 W' ∧ S2 l j s2 ∧ lkOB s2.Rn t = false ∧ ∀ c : Nat, c < 32 → lkOB s.Rn c = false → lkOB s2.Rn c = false := by
  refine (h.wi.end' t).mono ?_
  rintro e W' ⟨he, hI, hC⟩
  refine ⟨_, _, he, _, h.turn hI hC, ?_⟩
  unfold endW
  cases hl : lkOB s.Rn t with
  | false => exact ⟨hs, hl, fun _ _ h => h⟩
  | true =>
    have hB := (h.wi.pr.endB hl).1
    rw [if_pos rfl]
    refine ⟨⟨hs.Q, fun x hx => hs.ctx x ?_, fun c hc => ?_⟩, ?_, fun c hc h0 => ?_⟩
    · have : x ∈ (endM s.Rn t).1 := hx
      unfold endM at this
      rw [if_pos hl] at this
      exact List.mem_of_mem_eraseP this
    · show updI s.on ((t : Int)).toNat 0 c = if lkOB (endM s.Rn t).1 c then 2 else 0
      rw [hB c hc, show ((t : Int)).toNat = t from rfl]
      unfold updI
      by_cases e : c = t
      · rw [if_pos e, if_pos e]; rfl
      · rw [if_neg e, if_neg e]; exact hs.on c hc
    · show lkOB (endM s.Rn t).1 t = false
      rw [hB t (by omega), if_pos rfl]
    · show lkOB (endM s.Rn t).1 c = false
      rw [hB c hc]
      split
      · rfl
      · exact h0
theorem row_slice {w : World} {base : Nat} {e : TypeId} {v : Value} {n : Nat} {xs : List Value} (h : w.ownsRow base e 1 v n xs) : ∃ p cap, v = .slice p n cap := by
  rcases h.2 with ⟨rfl, e2⟩ | ⟨g, cap, cur, rfl, _⟩
  · obtain rfl : n = 0 := e2
    exact ⟨_, _, rfl⟩
  · exact ⟨_, _, rfl⟩
end
set_option maxRecDepth 100000 in
set_option maxHeartbeats 4000000 in
theorem lawOrder27_any (v2 v3 : Value) (ids : List Int) (ends : List Bool) (w : World) (hz : Ints w v2 ids) (he : Slc w v3 (ends.map Value.bool)) :
    Calls Try.prog 3 #[v2, v3] w fun e w' => e = .returned (.bool true) ∧ Keeps w w' := by
  have hkn := fun (W : World) => known27_any W
  have hst := WI.start (n := 2) (by decide) (by decide) w
  rw [show ((2 : Nat) : Int) = 2 from rfl] at hst
  obtain ⟨q2, cap2, rfl, hl2, hc2, hcell2⟩ := hz.open
  obtain ⟨q3, cap3, rfl, hl3, hc3, hn3, hcell3⟩ := he
  rw [List.length_map] at *
  have hz0 : (0 : Int) ≤ (ids.length : Int) := by omega
  have hd0 : (0 : Int) ≤ (ends.length : Int) := by omega
  unfold maxLen at hc3
  replace hkn := Lib.hid hkn
  replace hst := Lib.hid hst
  replace hcell2 := Lib.hid hcell2
  replace hcell3 := Lib.hid hcell3
  clear hz hn3
  go_enter Try.func3, Try.ntmps3
  go_wp2_with fail
  refine hst.out.mono ?_
  rintro e w1 ⟨k, p, rb, cap, pp, bb, rfl, hL⟩
  obtain ⟨M, hM⟩ : ∃ M, M = w1.heap.size := ⟨_, rfl⟩
  have hO : OW w k p rb cap pp bb M (M + 1) [] (fun _ => false) (.slice none 0 0) WS.zero (w1.alloc (.cells rowB0.toArray 28)) := by
    have hs := hL.keeps.size
    refine ⟨hL.kept (Keeps.alloc _ _), by rw [hM]; exact Blk.new _ _ _, World.ownsRow_nil _ _ _ _, by omega, by omega, fun b hb => ?_⟩
    rw [hM]
    rcases hb with hb | rfl
    · exact hL.pr.foot_lt b hb
    · exact hL.blk.lt
  have hz1 := zeroB27
  replace hO := Lib.hid hO
  replace hM := Lib.hid hM
  clear hst hL
  go_upto_region 5 with (fail)
  rw [← hM.out]
  refine wp_gen (fun W => OW w k p rb cap pp bb M (M + 1) [] (fun _ => false) (.slice none 0 0) WS.zero W) hO.out ?_
  clear hO hM hz1
  rintro W hO
  replace hO := Lib.hid hO
  go_wp2_with fail
  go_loopw [8, 9] (fun v i wr => ∃ (k1 : Nat) (l : List Int) (s : WS), k1 ≤ ids.length ∧ k1 ≤ 60 ∧ l.length ≤ k1 ∧ i = .int .i64 (k1 : Int) ∧ OW w k p rb cap pp bb M (M + 1) l (fun j => decide ((j : Int) ∈ l)) v s wr ∧ S1 l s ∧ l.Nodup ∧ (∀ z ∈ l, 0 ≤ z ∧ z < 256)) (fun _ i _ => ids.length - (intOf i).toNat)
  case atStart => exact ⟨0, [], WS.zero, by omega, by omega, by simp, rfl, by simpa using hO.out, ⟨fun _ => rfl, rfl, rfl, rfl⟩, List.nodup_nil, fun z hz => (nomatch hz)⟩
  case round =>
    clear hO
    obtain ⟨k1, l, s, hk, hk2, hll, rfl, hO, hS, hnd, hrg⟩ := hrel
    by_cases hgo : k1 < ids.length ∧ k1 < 60
    · obtain ⟨hlt, h60⟩ := hgo
      have hltI := Int.ofNat_lt.2 hlt
      have h60I : (k1 : Int) < 60 := by omega
      have hk0 : (0 : Int) ≤ (k1 : Int) := by omega
      obtain ⟨b2, off2, rfl, hcx⟩ := hcell2.out k1 hlt
      have hcy := (World.cell?_of_block (a := ⟨b2, off2 + k1, none⟩) (hO.wi.keeps.block b2 (cell_lt hcx))).trans hcx
      obtain ⟨x, hx, ex⟩ := wrap_mod ids[k1] 256 (by decide)
      generalize ids[k1] = y at *
      have hxN : x < 256 := by omega
      have hx0 : (0 : Int) ≤ (x : Int) := by omega
      have hx1 : (x : Int) < 256 := by omega
      have hpost := fun W2 (hK : Keeps wr W2) => (hO.kept hK).post hS x hxN
      have hcM := hO.tab.cellK (rowB_get (fun j => decide ((j : Int) ∈ l)) x hxN)
      have hML := hO.tab.lt
      replace hS := Lib.hid hS
      replace hnd := Lib.hid hnd
      replace hrg := Lib.hid hrg
      replace hO := Lib.hid hO
      clear hcx
      by_cases hm : (x : Int) ∈ l
      · simp only [decide_eq_true hm, if_pos hm] at hpost hcM
        have hfe : ∀ j, j < 256 → (if j = x then true else decide ((j : Int) ∈ l)) = decide ((j : Int) ∈ l) := fun j _ => by
          split
          · rename_i e; rw [e, decide_eq_true hm]
          · rfl
        replace hpost := Lib.hid hpost
        replace hfe := Lib.hid hfe
        replace hm := Lib.hid hm
        have e1 := World.new_ne wr _ hcM
        go_wp2_with fail
        go_region_held3 (fun w' => w'.cell? ⟨M, x, none⟩ = some (.bool true))
          (first
            | go_keep
            | exact hc2
            | exact hc1)
          (first
            | (go_at_call 9; with_reducible refine (hpost.out _ (Keeps.drew _)).mono ?_; rintro e w2 ⟨rfl, hc1, hp2⟩; replace hp2 := Lib.hid hp2)
            | (go_at_call 10; with_reducible refine hp2.out.mono ?_; rintro e w3 ⟨rfl, hc2, s2, hO2, hS2⟩; replace hO2 := Lib.hid hO2; replace hS2 := Lib.hid hS2))
        have hfM := hO2.out.tab.frozen x
        have hO3 := hO2.out.set x true hfe.out
        replace hO3 := Lib.hid hO3
        clear hpost hp2 hc1 hO2 hO hcM hcy e1 hML hS
        go_wp2_with fail
        go_roundw
        case rel => exact ⟨k1 + 1, l, s2, by omega, by omega, by omega, by go_num, hO3.out, hS2.out, hnd.out, hrg.out⟩
        case measure => (simp [intOf]; try omega)
      · simp only [decide_eq_false hm, if_neg hm] at hpost hcM
        have hfe : ∀ j, j < 256 → (if j = x then true else decide ((j : Int) ∈ l)) = decide ((j : Int) ∈ l ++ [(x : Int)]) := fun j _ => by
          split
          · rename_i e; rw [e]; simp
          · rename_i e
            have : ¬ (j : Int) = (x : Int) := by omega
            simp [this]
        have hnd2 : (l ++ [(x : Int)]).Nodup := by
          rw [List.nodup_append]
          refine ⟨hnd.out, by simp, fun a ha b hb e => ?_⟩
          have hb' : b = (x : Int) := by simpa using hb
          exact hm (by rw [← hb', ← e]; exact ha)
        have hrg2 : ∀ z ∈ l ++ [(x : Int)], 0 ≤ z ∧ z < 256 := fun z hz => by
          rcases List.mem_append.1 hz with hz | hz
          · exact hrg.out z hz
          · rw [List.mem_singleton.1 hz]; exact ⟨hx0, hx1⟩
        replace hpost := Lib.hid hpost
        replace hfe := Lib.hid hfe
        replace hnd2 := Lib.hid hnd2
        replace hrg2 := Lib.hid hrg2
        replace hm := Lib.hid hm
        have e1 := World.new_ne wr _ hcM
        go_wp2_with fail
        go_region_held3 (fun w' => w'.cell? ⟨M, x, none⟩ = some (.bool false))
          (first
            | go_keep
            | exact hc2
            | exact hc1)
          (first
            | (go_at_call 9; with_reducible refine (hpost.out _ (Keeps.drew _)).mono ?_; rintro e w2 ⟨rfl, hc1, hp2⟩; replace hp2 := Lib.hid hp2)
            | (go_at_call 10; with_reducible refine hp2.out.mono ?_; rintro e w3 ⟨rfl, hc2, s2, hO2, hS2⟩; replace hO2 := Lib.hid hO2; replace hS2 := Lib.hid hS2))
        have hrow := hO2.out.row
        have hbase : M + 1 ≤ w3.heap.size := hO2.out.tab.lt
        clear hpost hp2 hc1 hO hcM hcy e1 hML hS
        go_wp2_with (at_builtin; refine app1 rfl _ _ 22 3 (.int .i64 0) 8 rfl Try.underlying22 infoI27 rfl (M + 1) _ _ _ rfl hrow _ rfl rfl (by unfold maxLen; omega) (by omega) hbase ?_; intro g cap4 w4 hown hgrow hbel; have hO3 := hO2.out.push hown hgrow; have hfM := hO3.tab.frozen x; have hcM4 := hO3.tab.cellK (rowB_get _ x hxN); have hO4 := hO3.set x true hfe.out; replace hO4 := Lib.hid hO4; clear hO3 hown hgrow hbel)
        go_roundw
        case rel => exact ⟨k1 + 1, l ++ [(x : Int)], s2, by omega, by omega, by rw [List.length_append, List.length_singleton]; omega, by go_num, hO4.out, hS2.out, hnd2.out, hrg2.out⟩
        case measure => (simp [intOf]; try omega)
    · have hgoI : ¬ ((k1 : Int) < (ids.length : Int)) ∨ ((k1 : Int) < (ids.length : Int) ∧ ¬ ((k1 : Int) < 60)) := by omega
      have hl60 : l.length ≤ 60 := by omega
      obtain ⟨W2, hW2⟩ : ∃ W2, W2 = wr := ⟨_, rfl⟩
      rw [← hW2] at hO ⊢
      clear hW2
      replace hO := Lib.hid hO
      replace hnd := Lib.hid hnd
      replace hrg := Lib.hid hrg
      replace hS := Lib.hid hS
      clear hcell2
      go_upto_region 7 with (fail)
      go_cut [34] (fun b wx => b = .bool false ∧ wx = W2)
      case first =>
        rcases hgoI with hg | ⟨hg, hg2⟩
        all_goals
          go_wp2_with fail
          go_meet
          exact ⟨rfl, rfl⟩
      case rest =>
        obtain ⟨rfl, hw⟩ := hcut
        subst hw
        clear hgoI hgo
        obtain ⟨W3, hW3⟩ : ∃ W3, W3 = wc := ⟨_, rfl⟩
        rw [← hW3] at hO ⊢
        clear hW3
        generalize hff : (fun j : Nat => decide ((j : Int) ∈ l)) = f at hO
        clear hff
        have hP0 := hS.out.pre
        replace hP0 := Lib.hid hP0
        go_wp2_with fail
        go_loopw [11] (fun i wr => ∃ (k2 : Nat) (s : WS), k2 ≤ l.length ∧ i = .int .i64 (k2 : Int) ∧ OW w k p rb cap pp bb M (M + 1) l f u8 s wr ∧ Pre l k2 s) (fun i _ => l.length - (intOf i).toNat)
        case atStart => exact ⟨0, s, Nat.zero_le _, rfl, hO.out, hP0.out⟩
        case round =>
          clear hO hP0
          obtain ⟨k2, s2, hk3, rfl, hO, hP⟩ := hrel
          obtain ⟨wo, hwo⟩ : ∃ wo : World, wo = wr := ⟨_, rfl⟩
          rw [← hwo] at hO ⊢
          clear hwo
          by_cases hlt : k2 < l.length
          · have hltI := Int.ofNat_lt.2 hlt
            have hk20 : (0 : Int) ≤ (k2 : Int) := by omega
            have ht3 := tmod3 k2
            obtain ⟨s3, pg, hbg, hs3, hp3⟩ := hP.begin hlt hnd.out
            have hbeg := hO.wi.begin 1 ((k2 % 3 : Nat) : Int)
            rw [hbg] at hbeg
            have hturn := fun W' (hI : WI w k p rb cap 2 pp bb s3 W') (hC : Chg (FW k p rb 2 pp bb) wo W') => hO.turn hI hC
            have hcl := fun W' (hO : OW w k p rb cap pp bb M (M + 1) l f u8 s3 W') => slc_of_row hO.row
            obtain ⟨q5, cap5, hv5⟩ := row_slice hO.row
            rw [← ht3] at hbeg
            have hzr := hrg.out l[k2] (List.getElem_mem hlt)
            have hcell : ∀ W', OW w k p rb cap pp bb M (M + 1) l f u8 s3 W' → ∃ b5 o5, q5 = some ⟨b5, o5, none⟩ ∧ W'.cell? ⟨b5, o5 + k2, none⟩ = some (.int .i64 l[k2]) := fun W' hO' => by
              obtain ⟨q6, cap6, hv6, _, _, _, hc6⟩ := slc_of_row hO'.row
              obtain ⟨b6, o6, e6, c6⟩ := hc6 k2 (by simpa using hlt)
              rw [hv5] at hv6
              simp only [Value.slice.injEq] at hv6
              obtain ⟨rfl, _, _⟩ := hv6
              refine ⟨b6, o6, e6, ?_⟩
              rw [c6]; simp [List.getD, hlt]
            replace ht3 := Lib.hid ht3
            replace hs3 := Lib.hid hs3
            replace hp3 := Lib.hid hp3
            replace hbeg := Lib.hid hbeg
            replace hturn := Lib.hid hturn
            replace hcell := Lib.hid hcell
            clear hO hP hbg hcl
            subst hv5
            generalize l[k2] = z at *
            by_cases hk00 : k2 = 0
            · have hq0 : ((k2 : Int) == 0) = true := by simpa using hk00
              have hp1 := hp3.out hk00
              replace hp1 := Lib.hid hp1
              replace hk00 := Lib.hid hk00
              go_wp2_with fail
              refine hbeg.out.mono ?_
              rintro e w2 ⟨rfl, hI, hC⟩
              have hO2 := hturn.out _ hI hC
              obtain ⟨b5, o5, rfl, hc5⟩ := hcell.out _ hO2
              replace hO2 := Lib.hid hO2
              clear hI hC
              go_wp2_with fail
              go_roundw
              case rel => exact ⟨k2 + 1, s3, by omega, by go_num, hO2.out, by rw [hk00.out]; exact hp1.out⟩
              case measure => (simp [intOf]; try omega)
            · have hq0 : ((k2 : Int) == 0) = false := by simpa using hk00
              replace hk00 := Lib.hid hk00
              go_wp2_with fail
              refine hbeg.out.mono ?_
              rintro e w2 ⟨rfl, hI, hC⟩
              have hO2 := hturn.out _ hI hC
              obtain ⟨b5, o5, rfl, hc5⟩ := hcell.out _ hO2
              replace hO2 := Lib.hid hO2
              clear hI hC hbeg hturn
              go_upto_region 23 with (fail)
              have hKw := hO2.out.wi.keeps
              have he3 : ¬ (k2 < ends.length) ∨ ∃ (bq : Bool) (b6 o6 : Nat), k2 < ends.length ∧ q3 = some ⟨b6, o6, none⟩ ∧ w2.cell? ⟨b6, o6 + k2, none⟩ = some (.bool bq) := by
                by_cases hx : k2 < ends.length
                · obtain ⟨b6, o6, e6, c6⟩ := hcell3.out k2 (by simpa using hx)
                  refine .inr ⟨ends[k2], b6, o6, hx, e6, ?_⟩
                  rw [World.cell?_of_block (a := ⟨b6, o6 + k2, none⟩) (hKw.block b6 (cell_lt c6)), c6]
                  simp [List.getD, hx]
                · exact .inl hx
              replace hKw := Lib.hid hKw
              go_cut [105] (fun b wx => (∃ bq : Bool, b = .bool bq) ∧ wx = w2)
              case first =>
                rcases he3 with hx | ⟨bq, b6, o6, hx, rfl, c6⟩
                · have hxI : ¬ ((k2 : Int) < (ends.length : Int)) := by omega
                  go_wp2_with fail
                  go_meet
                  exact ⟨⟨_, rfl⟩, rfl⟩
                · have hxI : (k2 : Int) < (ends.length : Int) := by omega
                  go_wp2_with fail
                  go_meet
                  exact ⟨⟨_, rfl⟩, rfl⟩
              case rest =>
                obtain ⟨⟨bq, rfl⟩, hw⟩ := hcut
                subst hw
                obtain ⟨W4, hW4⟩ : ∃ W4, W4 = wc := ⟨_, rfl⟩
                rw [← hW4] at hO2 hc5 ⊢
                clear hW4 he3
                go_upto_if 105 with fail
                obtain ⟨kp, hkp⟩ : ∃ kp, k2 = kp + 1 := ⟨k2 - 1, by have := hk00.out; omega⟩
                have hsub : (k2 : Int) - 1 = (kp : Int) := by omega
                have hkpl : kp < l.length := by omega
                have hkp0 : (0 : Int) ≤ (kp : Int) := by omega
                have hkpI : (kp : Int) < (l.length : Int) := by omega
                have hcp : W4.cell? ⟨b5, o5 + kp, none⟩ = some (.int .i64 l[kp]) := by
                  obtain ⟨q6, cap6, hv6, _, _, _, hc6⟩ := slc_of_row hO2.out.row
                  obtain ⟨b6, o6, e6, c6⟩ := hc6 kp (by simpa using hkpl)
                  simp only [Value.slice.injEq] at hv6
                  obtain ⟨e7, _, _⟩ := hv6
                  rw [e6] at e7
                  simp only [Option.some.injEq, Addr.mk.injEq, and_true] at e7
                  obtain ⟨rfl, rfl⟩ := e7
                  rw [c6]; simp [List.getD, hkpl]
                have hrun := hO2.out.wi.runs l[kp]
                generalize l[kp] = zp at *
                generalize lkI s3.Rn zp = at3 at *
                generalize lkIB s3.Rn zp = is3 at *
                replace hrun := Lib.hid hrun
                replace hkp := Lib.hid hkp
                go_cut [15] (fun cv wx => (∃ c : Nat, c < 3 ∧ cv = .int .i64 (c : Int)) ∧ wx = W4)
                case first =>
                  cases bq with
                  | false =>
                    go_wp2_with fail
                    go_meet
                    exact ⟨⟨k2 % 3, Nat.mod_lt _ (by decide), rfl⟩, rfl⟩
                  | true =>
                    go_wp2_with fail
                    go_loopw [15, 16] (fun cv jv wx => (∃ c : Nat, c < 3 ∧ cv = .int .i64 (c : Int)) ∧ (∃ j : Nat, j ≤ 3 ∧ jv = .int .i64 (j : Int)) ∧ W4 = wx) (fun _ jv _ => 3 - (intOf jv).toNat)
                    case atStart => exact ⟨⟨k2 % 3, Nat.mod_lt _ (by decide), rfl⟩, ⟨0, by decide, rfl⟩, rfl⟩
                    case round =>
                      obtain ⟨⟨c, hc, rfl⟩, ⟨j, hj, rfl⟩, hw⟩ := hrel
                      subst hw
                      have hjl : j < 3 ∨ j = 3 := by omega
                      rcases hjl with hlt3 | rfl
                      · have hltI3 : (j : Int) < 3 := by omega
                        have hj0 : (0 : Int) ≤ (j : Int) := by omega
                        cases is3 with
                        | false =>
                          go_wp2_with fail
                          refine hrun.out.mono ?_
                          rintro e w5 ⟨rfl, rfl⟩
                          go_wp2_with fail
                          go_roundw
                          case rel => exact ⟨⟨c, hc, rfl⟩, ⟨j + 1, by omega, by go_num⟩, trivial⟩
                          case measure => (simp [intOf]; try omega)
                        | true =>
                          cases hq3 : (at3 == (j : Int)) with
                          | false =>
                            go_wp2_with fail
                            refine hrun.out.mono ?_
                            rintro e w5 ⟨rfl, rfl⟩
                            go_wp2_with fail
                            go_roundw
                            case rel => exact ⟨⟨c, hc, rfl⟩, ⟨j + 1, by omega, by go_num⟩, trivial⟩
                            case measure => (simp [intOf]; try omega)
                          | true =>
                            go_wp2_with fail
                            refine hrun.out.mono ?_
                            rintro e w5 ⟨rfl, rfl⟩
                            go_wp2_with fail
                            go_roundw
                            case rel => exact ⟨⟨j, by omega, rfl⟩, ⟨j + 1, by omega, by go_num⟩, trivial⟩
                            case measure => (simp [intOf]; try omega)
                      · go_wp2_with fail
                        go_meet
                        exact ⟨⟨c, hc, rfl⟩, rfl⟩
                case rest =>
                  obtain ⟨⟨c, hc, rfl⟩, hw⟩ := hcut
                  subst hw
                  obtain ⟨W5, hW5⟩ : ∃ W5, W5 = wc := ⟨_, rfl⟩
                  rw [← hW5] at hO2 ⊢
                  clear hW5 hrun hcp hc5 hcell
                  go_wp2_with fail
                  go_loopw [19] (fun jv wx => ∃ (j : Nat) (s4 : WS), j ≤ 3 ∧ jv = .int .i64 (j : Int) ∧ OW w k p rb cap pp bb M (M + 1) l f (.slice (some ⟨b5, o5, none⟩) l.length cap5) s4 wx ∧ S2 l (k2 + 1) s4 ∧ ∀ i, i < j → lkOB s4.Rn (((c + i) % 3 : Nat) : Int) = false) (fun jv _ => 3 - (intOf jv).toNat)
                  case atStart => exact ⟨0, s3, by omega, rfl, hO2.out, hs3.out, fun i hi => absurd hi (Nat.not_lt_zero i)⟩
                  case round =>
                    clear hO2 hs3 hp3
                    obtain ⟨j, s4, hj, rfl, hO4, hS4, hF4⟩ := hrel
                    obtain ⟨W6, hW6⟩ : ∃ W6, W6 = wr := ⟨_, rfl⟩
                    rw [← hW6] at hO4 ⊢
                    clear hW6
                    have hj0 : (0 : Int) ≤ (j : Int) := by omega
                    have hbu := hO4.wi.busyP 1
                    have hble := hO4.wi.busy_le 1
                    generalize busyW 2 s4.on 1 = b at *
                    replace hO4 := Lib.hid hO4
                    replace hS4 := Lib.hid hS4
                    replace hF4 := Lib.hid hF4
                    go_upto_region 31 with (fail)
                    go_cut [133] (fun bv wx => (∃ bq : Bool, bv = .bool bq ∧ (bq = true → j < 3)) ∧ wx = W6)
                    case first =>
                      have hjl : j < 3 ∨ j = 3 := by omega
                      rcases hjl with hlt3 | rfl
                      · have hltI3 : (j : Int) < 3 := by omega
                        have hb3 : b = 0 ∨ b = 1 ∨ b = 2 := by omega
                        rcases hb3 with rfl | rfl | rfl
                        all_goals
                          replace hbu := Lib.hid hbu
                          go_wp2_with (first | (with_reducible refine hbu.out.mono ?_; rintro e w7 ⟨rfl, rfl⟩) | fail)
                          go_meet
                          exact ⟨⟨_, rfl, fun _ => hlt3⟩, rfl⟩
                      · replace hbu := Lib.hid hbu
                        go_wp2_with fail
                        go_meet
                        exact ⟨⟨_, rfl, fun e => (nomatch e)⟩, rfl⟩
                    case rest =>
                      obtain ⟨⟨bq4, rfl, hjq⟩, hw⟩ := hcut
                      subst hw
                      obtain ⟨W7, hW7⟩ : ∃ W7, W7 = wc := ⟨_, rfl⟩
                      rw [← hW7] at hO4 hbu ⊢
                      clear hW7 hbu hble
                      cases bq4 with
                      | true =>
                        have hlt3 := hjq rfl
                        have hend := hO4.out.end' hS4.out ((c + j) % 3) (Nat.mod_lt _ (by decide))
                        have ht := tmod3 (c + j)
                        rw [← ht, Int.natCast_add] at hend
                        have hm1 : (c : Int) + (j : Int) ≤ 9223372036854775807 := by omega
                        have hm2 : (0 : Int) ≤ (c : Int) + (j : Int) := by omega
                        replace ht := Lib.hid ht
                        replace hend := Lib.hid hend
                        clear hO4 hS4
                        go_wp2_with fail
                        refine hend.out.mono ?_
                        rintro e w8 ⟨a1, a2, rfl, s5, hO5, hS5, hz5, hk5⟩
                        have hF5 : ∀ i, i < j + 1 → lkOB s5.Rn (((c + i) % 3 : Nat) : Int) = false := fun i hi => by
                          rcases Nat.lt_or_ge i j with h | h
                          · have := Nat.mod_lt (c + i) (show 0 < 3 by decide)
                            exact hk5 _ (by omega) (hF4.out i h)
                          · obtain rfl : i = j := by omega
                            rw [← ht.out, Int.natCast_add]; exact hz5
                        replace hO5 := Lib.hid hO5
                        replace hS5 := Lib.hid hS5
                        replace hF5 := Lib.hid hF5
                        clear hz5 hk5 hend
                        go_wp2_with fail
                        go_roundw
                        case rel => exact ⟨j + 1, s5, by omega, by go_num, hO5.out, hS5.out, hF5.out⟩
                        case measure => (simp [intOf]; try omega)
                      | false =>
                        clear hF4 hjq
                        go_wp2_with fail
                        go_loopw [20] (fun jv wx => ∃ (j : Nat) (s4 : WS), j ≤ 3 ∧ jv = .int .i64 (j : Int) ∧ OW w k p rb cap pp bb M (M + 1) l f (.slice (some ⟨b5, o5, none⟩) l.length cap5) s4 wx ∧ S2 l (k2 + 1) s4 ∧ ∀ i, i < j → lkOB s4.Rn (((c + i) % 3 : Nat) : Int) = false) (fun jv _ => 3 - (intOf jv).toNat)
                        case atStart => exact ⟨0, s4, by omega, rfl, hO4.out, hS4.out, fun i hi => absurd hi (Nat.not_lt_zero i)⟩
                        case round =>
                          clear hO4 hS4
                          obtain ⟨j2, s6, hj2, rfl, hO6, hS6, hF6⟩ := hrel
                          obtain ⟨W8, hW8⟩ : ∃ W8, W8 = wr := ⟨_, rfl⟩
                          rw [← hW8] at hO6 ⊢
                          clear hW8
                          have hj20 : (0 : Int) ≤ (j2 : Int) := by omega
                          have hbu := hO6.wi.busyP 1
                          have hble := hO6.wi.busy_le 1
                          have hidle := hS6.idle
                          generalize busyW 2 s6.on 1 = b at *
                          replace hO6 := Lib.hid hO6
                          replace hS6 := Lib.hid hS6
                          replace hF6 := Lib.hid hF6
                          go_upto_region 35 with (fail)
                          go_cut [148] (fun bv wx => (∃ bq : Bool, bv = .bool bq ∧ (bq = true → j2 < 3) ∧ (bq = false → j2 = 3 ∨ b = 0)) ∧ wx = W8)
                          case first =>
                            have hjl : j2 < 3 ∨ j2 = 3 := by omega
                            rcases hjl with hlt3 | rfl
                            · have hltI3 : (j2 : Int) < 3 := by omega
                              have hb3 : b = 0 ∨ b = 1 ∨ b = 2 := by omega
                              clear hidle
                              rcases hb3 with rfl | rfl | rfl
                              · replace hbu := Lib.hid hbu
                                go_wp2_with (first | (with_reducible refine hbu.out.mono ?_; rintro e w7 ⟨rfl, rfl⟩) | fail)
                                go_meet
                                exact ⟨⟨_, rfl, fun _ => hlt3, fun _ => .inr trivial⟩, rfl⟩
                              · replace hbu := Lib.hid hbu
                                go_wp2_with (first | (with_reducible refine hbu.out.mono ?_; rintro e w7 ⟨rfl, rfl⟩) | fail)
                                go_meet
                                exact ⟨⟨_, rfl, fun _ => hlt3, fun e => (nomatch e)⟩, rfl⟩
                              · replace hbu := Lib.hid hbu
                                go_wp2_with (first | (with_reducible refine hbu.out.mono ?_; rintro e w7 ⟨rfl, rfl⟩) | fail)
                                go_meet
                                exact ⟨⟨_, rfl, fun _ => hlt3, fun e => (nomatch e)⟩, rfl⟩
                            · replace hbu := Lib.hid hbu
                              go_wp2_with fail
                              go_meet
                              exact ⟨⟨_, rfl, fun e => (nomatch e), fun _ => .inl trivial⟩, rfl⟩
                          case rest =>
                            obtain ⟨⟨bq5, rfl, hjq, hjn⟩, hw⟩ := hcut
                            subst hw
                            obtain ⟨W9, hW9⟩ : ∃ W9, W9 = wc := ⟨_, rfl⟩
                            rw [← hW9] at hO6 hbu ⊢
                            clear hW9 hbu hble
                            cases bq5 with
                            | true =>
                              have hlt3 := hjq rfl
                              have hend := hO6.out.end' hS6.out ((c + j2) % 3) (Nat.mod_lt _ (by decide))
                              have ht := tmod3 (c + j2)
                              rw [← ht, Int.natCast_add] at hend
                              have hm1 : (c : Int) + (j2 : Int) ≤ 9223372036854775807 := by omega
                              have hm2 : (0 : Int) ≤ (c : Int) + (j2 : Int) := by omega
                              replace ht := Lib.hid ht
                              replace hend := Lib.hid hend
                              clear hO6 hS6 hidle hjn hjq
                              go_wp2_with fail
                              refine hend.out.mono ?_
                              rintro e w8 ⟨a1, a2, rfl, s5, hO5, hS5, hz5, hk5⟩
                              have hF5 : ∀ i, i < j2 + 1 → lkOB s5.Rn (((c + i) % 3 : Nat) : Int) = false := fun i hi => by
                                rcases Nat.lt_or_ge i j2 with h | h
                                · have := Nat.mod_lt (c + i) (show 0 < 3 by decide)
                                  exact hk5 _ (by omega) (hF6.out i h)
                                · obtain rfl : i = j2 := by omega
                                  rw [← ht.out, Int.natCast_add]; exact hz5
                              replace hO5 := Lib.hid hO5
                              replace hS5 := Lib.hid hS5
                              replace hF5 := Lib.hid hF5
                              clear hz5 hk5 hend
                              go_wp2_with fail
                              go_roundw
                              case rel => exact ⟨j2 + 1, s5, by omega, by go_num, hO5.out, hS5.out, hF5.out⟩
                              case measure => (simp [intOf]; try omega)
                            | false =>
                              have hpre : Pre l (k2 + 1) s6 := by
                                have hk1 := hk00.out
                                refine hS6.out.pre (by omega) ?_
                                rcases hjn rfl with e | e
                                · subst e; exact around3 hF6.out
                                · exact hidle e
                              replace hpre := Lib.hid hpre
                              clear hidle hjn hjq hF6 hS6
                              go_wp2_with fail
                              go_roundw
                              case rel => exact ⟨k2 + 1, s6, by omega, by go_num, hO6.out, hpre.out⟩
                              case measure => (simp [intOf]; try omega)
          · obtain rfl : k2 = l.length := by omega
            obtain ⟨q5, cap5, hv5⟩ := row_slice hO.row
            subst hv5
            have hk := hkn.out wo
            have hbu := fun W2 (hK : Keeps wo W2) => (hO.wi.kept hK).busyP 0
            rw [hP.s2.busy0, show ((0 : Nat) : Int) = 0 from rfl] at hbu
            have hKw := hO.wi.keeps
            replace hKw := Lib.hid hKw
            replace hk := Lib.hid hk
            replace hbu := Lib.hid hbu
            clear hO hP
            go_wp2_with fail
            refine hk.out.mono ?_
            rintro e w2 ⟨rfl, hK2⟩
            have hb2 := hbu.out w2 hK2
            replace hb2 := Lib.hid hb2
            replace hK2 := Lib.hid hK2
            go_wp2_with fail
            refine hb2.out.mono ?_
            rintro e w3 ⟨rfl, rfl⟩
            go_wp2_with fail
            go_ret
            exact ⟨rfl, hKw.out.trans hK2.out⟩
end Go.Proofs.Ytcggbfpangnllaa
