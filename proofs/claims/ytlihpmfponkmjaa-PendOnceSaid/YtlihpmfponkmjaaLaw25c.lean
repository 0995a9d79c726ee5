/- PendOnce: what runs where, plain; the walk. -/
import Derived.Test.YtlihpmfponkmjaaLaw25
import Derived.Test.YtlihpmfponkmjaaOpen25
import Derived.Deep.DeepCutAuto
import Derived.Deep.CutBlock
namespace Go.Proofs.Ytlihpmfponkmjaa
open Go.RowKit i64

/-- Who runs where, both ways. -/
def Run (fr fo : Nat → Int) : Prop := ∀ c, c < 32 → fo c = 0 ∨ ∃ x : Nat, x < 256 ∧ fo c = (x : Int) + 1 ∧ fr x = (c : Int) + 1
theorem Run.zero : Run (fun _ => 0) (fun _ => 0) := fun _ _ => .inl rfl
theorem Run.begin {fr fo : Nat → Int} (h : Run fr fo) {c x : Nat} (hx : x < 256) (hf : fr x = 0) : Run (updI fr x ((c : Int) + 1)) (updI fo c ((x : Int) + 1)) := by
  intro d hd
  unfold updI
  by_cases e : d = c
  · subst e; exact .inr ⟨x, hx, by simp, by simp⟩
  · rw [if_neg e]
    rcases h d hd with h0 | ⟨y, hy, h1, h2⟩
    · exact .inl h0
    · refine .inr ⟨y, hy, h1, ?_⟩
      rw [if_neg (fun e2 => by subst e2; omega)]
      exact h2
theorem Run.endY {fr fo : Nat → Int} (h : Run fr fo) {c x : Nat} (hf : fr x = (c : Int) + 1) : Run (updI fr x 0) (updI fo c 0) := by
  intro d hd
  unfold updI
  by_cases e : d = c
  · subst e; exact .inl (by simp)
  · rw [if_neg e]
    rcases h d hd with h0 | ⟨y, hy, h1, h2⟩
    · exact .inl h0
    · refine .inr ⟨y, hy, h1, ?_⟩
      rw [if_neg (fun e2 => by subst e2; omega)]
      exact h2
/-- The law's own table. -/
def rowO (fo : Nat → Int) : List Value := (List.range 32).map fun c => .int .i64 (fo c - 1)
theorem rowO_get (fo : Nat → Int) (c : Nat) (h : c < 32) : (rowO fo)[c]? = some (.int .i64 (fo c - 1)) := by simp [rowO, h]
theorem rowO_set (fo : Nat → Int) (c : Nat) (v : Int) : (rowO fo).set c (.int .i64 (v - 1)) = rowO (updI fo c v) := by
  unfold rowO
  rw [map_range_set 32 (fun c => fo c - 1) c (v - 1)]
  apply List.map_congr_left
  intro d _
  unfold updI
  by_cases e : d = c
  · rw [if_pos e, if_pos e]
  · rw [if_neg e, if_neg e]
def rowK (k : Nat) : List Value := (List.range 32).map fun c => .int .i64 (if c < k then -1 else 0)
theorem rowK_zero : rowK 0 = List.replicate 32 (.int .i64 0) := by kernel_rfl
theorem rowK_all : rowK 32 = rowO (fun _ => 0) := by
  unfold rowK rowO
  apply List.map_congr_left
  intro c hc
  rw [if_pos (List.mem_range.1 hc)]; rfl
theorem rowK_set (k : Nat) : (rowK k).set k (.int .i64 (-1)) = rowK (k + 1) := by
  unfold rowK
  rw [map_range_set 32 (fun c => if c < k then -1 else 0) k (-1)]
  apply List.map_congr_left
  intro d _
  unfold updI
  by_cases e : d = k
  · rw [if_pos e, if_pos (by omega)]
  · rw [if_neg e]
    dsimp only
    by_cases h : d < k
    · rw [if_pos h, if_pos (by omega)]
    · rw [if_neg h, if_neg (by omega)]
/-- What holds between the acts. -/
structure OI25 (w : World) (p rb cap : Nat) (pp bb : Nat → Nat) (M : Nat) (fr fo : Nat → Int) (R : List (List Int)) (W : World) : Prop where
  pi : PI w p rb cap 4 pp bb fr fo R W
  run : Run fr fo
  row : Blk W M 27 (rowO fo)
  own : w.heap.size ≤ M
  apart : ¬ Foot p rb 4 pp bb M
section
variable {w W W' : World} {p rb cap M : Nat} {pp bb : Nat → Nat} {fr fo fr' fo' : Nat → Int} {R R' : List (List Int)}
theorem OI25.kept (h : OI25 w p rb cap pp bb M fr fo R W) (hk : Keeps W W') : OI25 w p rb cap pp bb M fr fo R W' := ⟨h.pi.kept hk, h.run, h.row.keeps hk, h.own, h.apart⟩
theorem OI25.cell (h : OI25 w p rb cap pp bb M fr fo R W) (c : Nat) (hc : c < 32) : W.cell? ⟨M, c, none⟩ = some (.int .i64 (fo c - 1)) := h.row.cellK (rowO_get fo c hc)
theorem PI.setM {n : Nat} (h : PI w p rb cap n pp bb fr fo R W) (hM : w.heap.size ≤ M) (hap : ¬ Foot p rb n pp bb M) (k : Nat) (v : Value) : PI w p rb cap n pp bb fr fo R (W.setCell ⟨M, k, none⟩ v) := by
  have hC : Chg (· = M) W (W.setCell ⟨M, k, none⟩ v) := Chg.setCell _ _ rfl
  exact ⟨h.at'.chg hC (fun j hj e => hap (e ▸ hj)), h.ok, h.new, Chg.keeps hC h.keeps (fun j hj hs => by omega)⟩
theorem OI25.add1 (h : OI25 w p rb cap pp bb M fr fo R W) (c : Nat) (hc : c < 4) (x : Int) (sb : Nat) (hsb : sb = W.heap.size) :
    Calls Try.prog 8 #[.pointer (some ⟨p, 0, none⟩), .int .i64 c, .slice (some ⟨sb, 0, none⟩) 1 1] (W.alloc (.cells #[.int .i64 x] 3)) fun e W' => ∃ er, e = .returned (.int .i64 er) ∧ OI25 w p rb cap pp bb M fr fo (addR R c [x]).1 W' := by
  subst hsb
  have hk := h.kept (Keeps.alloc W (.cells #[.int .i64 x] 3))
  refine (padd_any hk.pi.at' hk.pi.ok c hc _ [x] (ints_one25 W x) (fun k hk2 _ hf => ?_)).mono ?_
  · have := h.pi.at'.foot_lt k hf
    simp [Value.ownBlock] at hk2
    omega
  · rintro e W' ⟨he, ha, ho, hC⟩
    exact ⟨_, he, hk.pi.chg ha ho hC, h.run, hk.row.chg hC h.apart, h.own, h.apart⟩
theorem OI25.begin (h : OI25 w p rb cap pp bb M fr fo R W) (k c x : Nat) (xs : List Int) (hk : k < 4) (hc : c < 32) (h0 : fo c = 0) (hq0 : R.getD k [] = (x : Int) :: xs) (hx : x < 256) (hfr : fr x = 0) : Calls Try.prog 10 #[.pointer (some ⟨p, 0, none⟩), .int .i64 k, .int .i64 c] W fun e W' => e = .returned (.tuple #[.int .i64 x, .int .i64 0]) ∧
    PI w p rb cap 4 pp bb (updI fr x ((c : Int) + 1)) (updI fo c ((x : Int) + 1)) (R.set k xs) W' ∧ Blk W' M 27 (rowO fo) ∧ Chg (Foot p rb 4 pp bb) W W' := by
  refine (begin_yes h.pi.at' k c x xs hk hc h0 hx hq0 hfr).mono ?_
  rintro e W' ⟨he, ha, hC⟩
  exact ⟨he, h.pi.chg ha (h.pi.ok.pop hq0) hC, h.row.chg hC h.apart, hC⟩
theorem OI25.endY (h : OI25 w p rb cap pp bb M fr fo R W) (c x : Nat) (hc : c < 32) (hx : x < 256) (h0 : fo c = (x : Int) + 1) : Calls Try.prog 11 #[.pointer (some ⟨p, 0, none⟩), .int .i64 c] W fun e W' => e = .returned (.tuple #[.int .i64 x, .int .i64 0]) ∧ PI w p rb cap 4 pp bb (updI fr x 0) (updI fo c 0) R W' ∧ Blk W' M 27 (rowO fo) := by
  refine (pend_yes h.pi.at' c x hc hx h0).mono ?_
  rintro e W' ⟨he, ha, hC⟩
  exact ⟨he, h.pi.chgP ha h.pi.ok hC, h.row.chg hC (fun e => h.apart (.inl e))⟩
/-- The law's own table is told, too. -/
theorem OI25.set (h : PI w p rb cap 4 pp bb fr' fo' R W) (hr : Run fr' fo') (hb : Blk W M 27 (rowO fo)) (hM : w.heap.size ≤ M) (hap : ¬ Foot p rb 4 pp bb M) (c : Nat) (v : Int) (hfo : fo' = updI fo c v) : OI25 w p rb cap pp bb M fr' fo' R (W.setCell ⟨M, c, none⟩ (.int .i64 (v - 1))) := by
  refine ⟨h.setM hM hap _ _, hr, ?_, hM, hap⟩
  rw [hfo, ← rowO_set]
  exact hb.set c _
end
theorem updI_same (f : Nat → Int) (c : Nat) (h : f c = 0) : updI f c 0 = f := by
  funext k
  unfold updI
  split
  · rename_i e; rw [e, h]
  · rfl
set_option maxRecDepth 100000 in
set_option maxHeartbeats 4000000 in
theorem lawOnce25_any (v : Value) (acts : List Act25) (w : World) (hv : SlcS 4 w v (acts.map aE25)) :
    Calls Try.prog 3 #[v] w fun e w' => e = .returned (.bool true) ∧ Keeps w w' := by
  have hkn := fun (W : World) => known25_any W
  have hst := PI.start (n := 4) (by decide) (by decide) w
  rw [show ((4 : Nat) : Int) = 4 from rfl] at hst
  obtain ⟨q, cap, rfl, hl, hc, _⟩ := SlcS.get hv
  rw [List.length_map] at hl ⊢
  have haI : (0 : Int) ≤ (acts.length : Int) := by omega
  replace hkn := Lib.hid hkn
  replace hst := Lib.hid hst
  replace hv := Lib.hid hv
  go_enter Try.func3, Try.ntmps3
  go_wp2_with fail
  refine hst.out.mono ?_
  rintro e w1 ⟨p, rb, cap2, pp, bb, rfl, hL⟩
  obtain ⟨M, hM⟩ : ∃ M, M = w1.heap.size := ⟨_, rfl⟩
  have hP : PI w p rb cap2 4 pp bb (fun _ => 0) (fun _ => 0) (List.replicate 4 []) (w1.alloc (.cells (rowK 0).toArray 27)) := hL.kept (Keeps.alloc _ _)
  have hB : Blk (w1.alloc (.cells (rowK 0).toArray 27)) M 27 (rowK 0) := by rw [hM]; exact Blk.new _ _ _
  have hMo : w.heap.size ≤ M := by rw [hM]; exact hL.keeps.size
  have hap : ¬ Foot p rb 4 pp bb M := fun hF => by have := hL.at'.foot_lt M hF; omega
  rw [rowK_zero] at hP hB
  replace hP := Lib.hid hP
  replace hB := Lib.hid hB
  replace hM := Lib.hid hM
  replace hMo := Lib.hid hMo
  replace hap := Lib.hid hap
  clear hst hL
  go_upto_region 5 with (fail)
  rw [← hM.out]
  refine wp_gen (fun W => PI w p rb cap2 4 pp bb (fun _ => 0) (fun _ => 0) (List.replicate 4 []) W ∧ Blk W M 27 (rowK 0)) ⟨hP.out, by rw [rowK_zero]; exact hB.out⟩ ?_
  clear hP hB hM
  rintro W ⟨hP, hB⟩
  replace hP := Lib.hid hP
  replace hB := Lib.hid hB
  go_wp2_with fail
  go_loopw [6] (fun i wr => ∃ k : Nat, k ≤ 32 ∧ i = .int .i64 (k : Int) ∧ PI w p rb cap2 4 pp bb (fun _ => 0) (fun _ => 0) (List.replicate 4 []) wr ∧ Blk wr M 27 (rowK k)) (fun i _ => 32 - (intOf i).toNat)
  case atStart => exact ⟨0, by omega, rfl, hP.out, hB.out⟩
  case round =>
    clear hP hB
    obtain ⟨k, hk, rfl, hP, hB⟩ := hrel
    by_cases hlt : k < 32
    · have hltI : (k : Int) < 32 := by omega
      have hk0 : (0 : Int) ≤ (k : Int) := by omega
      have hc0 := hB.cellK (k := k) (v := .int .i64 0) (by simp [rowK, hlt])
      have hf0 := hB.frozen k
      have hB2 := hB.set k (.int .i64 (-1))
      rw [rowK_set] at hB2
      have hP2 := hP.setM hMo.out hap.out k (.int .i64 (-1))
      replace hB2 := Lib.hid hB2
      replace hP2 := Lib.hid hP2
      clear hP hB
      go_wp2_with fail
      go_roundw
      case rel => exact ⟨k + 1, by omega, by go_num, hP2.out, hB2.out⟩
      case measure => (simp [intOf]; try omega)
    · obtain rfl : k = 32 := by omega
      rw [rowK_all] at hB
      have hO : OI25 w p rb cap2 pp bb M (fun _ => 0) (fun _ => 0) (List.replicate 4 []) wr := ⟨hP, Run.zero, hB, hMo.out, hap.out⟩
      replace hO := Lib.hid hO
      clear hP hB hMo hap
      go_wp2_with fail
      go_loopw [7] (fun i wr => ∃ (k : Nat) (fr fo : Nat → Int) (R : List (List Int)), k ≤ acts.length ∧ k ≤ 80 ∧ i = .int .i64 (k : Int) ∧ OI25 w p rb cap2 pp bb M fr fo R wr) (fun i _ => acts.length - (intOf i).toNat)
      case atStart => exact ⟨0, _, _, _, by omega, by omega, rfl, hO.out⟩
      case round =>
        clear hO
        obtain ⟨k, fr, fo, R, hk, hk80, rfl, hO⟩ := hrel
        obtain ⟨wo, hwo⟩ : ∃ wo : World, wo = wr := ⟨_, rfl⟩
        rw [← hwo] at hO ⊢
        clear hwo
        by_cases hgo : k < acts.length ∧ k < 80
        · obtain ⟨hlt, h80⟩ := hgo
          have hltI := Int.ofNat_lt.2 hlt
          have h80I : (k : Int) < 80 := by omega
          have hk0 : (0 : Int) ≤ (k : Int) := by omega
          obtain ⟨q', c', hv', _, _, hcell⟩ := SlcS.get (SlcS.below hv.out hO.pi.keeps)
          obtain ⟨ab, aoff, hq', hcell⟩ := hcell k (by rw [List.length_map]; exact hlt)
          simp only [Value.slice.injEq] at hv'
          obtain rfl : q = some ⟨ab, aoff, none⟩ := hv'.1.trans hq'
          have e0 : (acts.map aE25).getD k [] = aE25 acts[k] := by simp [List.getD, hlt]
          rw [e0] at hcell
          have y0 := hcell 0 (by decide)
          have y1 := hcell 1 (by decide)
          have y2 := hcell 2 (by decide)
          have y3 := hcell 3 (by decide)
          clear hcell hv' hq' e0
          generalize acts[k] = a at *
          obtain ⟨ki, cp, id, cx⟩ := a
          simp only [aE25, List.getD_cons_zero, List.getD_cons_succ, Nat.add_zero] at y0 y1 y2 y3
          obtain ⟨kd, hkd, ek⟩ := wrap_mod ki 4 (by decide)
          obtain ⟨c, hc4, ec⟩ := wrap_mod cp 4 (by decide)
          obtain ⟨x, hx, ex⟩ := wrap_mod id 256 (by decide)
          obtain ⟨t, ht, et⟩ := wrap_mod cx 32 (by decide)
          replace hO := Lib.hid hO
          go_upto_region 12 with (fail)
          go_quiet (fail)
          rename_i nq
          go_upto_region 13 with (fail)
          refine wp_gen (fun W => OI25 w p rb cap2 pp bb M fr fo R W ∧ W.cell? ⟨ab, aoff + k * 4, none⟩ = some (.int .i64 ki)) ⟨hO.out.kept (Keeps.drewN _ _), y0⟩ ?_
          clear y0 y1 y2 y3 hO
          rintro W ⟨hO, y0⟩
          replace hO := Lib.hid hO
          go_upto_block 4 with fail
          go_cut [] (fun wx => ∃ (fr2 fo2 : Nat → Int) (R2 : List (List Int)), OI25 w p rb cap2 pp bb M fr2 fo2 R2 wx)
          case first =>
            have hkd4 : (kd = 0 ∨ kd = 1) ∨ kd = 2 ∨ kd = 3 := by omega
            rcases hkd4 with hkd01 | rfl | rfl
            · have ha := hO.out.add1 c (by omega) (x : Int) W.heap.size rfl
              replace ha := Lib.hid ha
              rcases hkd01 with rfl | rfl
              all_goals
                clear hO
                go_wp2_with fail
                refine ha.out.mono ?_
                rintro e w2 ⟨er, rfl, hO⟩
                replace hO := Lib.hid hO
                go_wp2_with fail
                go_meet
                exact ⟨_, _, _, hO.out⟩
            · -- Begin
              as_aux_lemma =>
              have hql := queueL_any hO.out.pi.at' (c : Int)
              rw [qL_nat] at hql
              have hcases : (∃ er : Int, ¬ er = 0 ∧ ∀ w2, Keeps W w2 → Calls Try.prog 10 #[.pointer (some ⟨p, 0, none⟩), .int .i64 c, .int .i64 t] w2 fun e w' => e = .returned (.tuple #[.int .i64 0, .int .i64 er]) ∧ Keeps w2 w') ∨ (∃ (y : Nat) (xs : List Int), y < 256 ∧ fo t = 0 ∧ R.getD c [] = (y : Int) :: xs ∧ fr y = 0) := by
                have hc : c < 4 := by omega
                have ht : t < 32 := by omega
                rcases hO.out.run t ht with h0 | ⟨y, hy, h1, h2⟩
                · cases hQ : R.getD c [] with
                  | nil =>
                    refine .inl ⟨4, by decide, fun w2 hK => (begin_none (hO.out.pi.at'.keeps hK) c t hc ht h0 hQ).mono ?_⟩
                    rintro e w' ⟨rfl, rfl⟩
                    exact ⟨rfl, Keeps.refl _⟩
                  | cons z xs =>
                    have hz := hO.out.pi.ok.rng c z (by rw [hQ]; simp)
                    obtain ⟨y, rfl⟩ : ∃ y : Nat, z = y := ⟨z.toNat, by omega⟩
                    by_cases hf : fr y = 0
                    · exact .inr ⟨y, xs, by omega, h0, rfl, hf⟩
                    · exact .inl ⟨21, by decide, fun w2 hK => begin_busy (hO.out.pi.at'.keeps hK) c t y xs hc ht h0 (by omega) hQ hf⟩
                · refine .inl ⟨5, by decide, fun w2 hK => (begin_twice (hO.out.pi.at'.keeps hK) c t hc ht (by omega)).mono ?_⟩
                  rintro e w' ⟨rfl, rfl⟩
                  exact ⟨rfl, Keeps.refl _⟩
              replace hql := Lib.hid hql
              rcases hcases with ⟨er, her, hbe⟩ | ⟨y, xs, hy, h0, hQ, hf⟩
              · replace hbe := Lib.hid hbe
                go_wp2_with fail
                refine hql.out.mono ?_
                rintro e w2 ⟨v, rfl, hr, hK⟩
                replace hK := Lib.hid hK
                clear hr
                go_wp2_with fail
                refine (hbe.out w2 hK.out).mono ?_
                rintro e w3 ⟨rfl, hK3⟩
                replace hK3 := Lib.hid hK3
                go_wp2_with fail
                go_meet
                exact ⟨_, _, _, hO.out.kept (Keeps.trans hK.out hK3.out)⟩
              · rw [hQ] at hql
                have hbe := fun w2 (hK : Keeps W w2) => (hO.out.kept hK).begin c t y xs (by omega) (by omega) h0 hQ hy hf
                have hrun := hO.out.run.begin (c := t) hy hf
                have hno : ∀ j, j < 32 → ¬ fo j - 1 = (y : Int) := fun j hj e => by
                  rcases hO.out.run j hj with h1 | ⟨z, hz, h1, h2⟩
                  · omega
                  · have : z = y := by omega
                    subst this; omega
                have hfoot := hO.out.pi.at'.foot_lt
                have hown := hO.out.own
                have hapt := hO.out.apart
                have hRc : (R.set c xs).getD c [] = xs := by rw [getD_set R c c xs (by have := hO.out.pi.at'.len; omega), if_pos rfl]
                have hft : fo t - 1 = -1 := by omega
                have hy0 : (0 : Int) ≤ (y : Int) := by omega
                have hx0 : (0 : Int) ≤ (xs.length : Int) := by omega
                have hxI : (xs.length : Int) ≤ 256 := by
                  obtain ⟨hd, hR⟩ := hO.out.pi.at'.ring c (by omega)
                  have := hR.len
                  rw [hQ, List.length_cons] at this
                  omega
                replace hql := Lib.hid hql
                replace hbe := Lib.hid hbe
                replace hrun := Lib.hid hrun
                replace hno := Lib.hid hno
                replace hfoot := Lib.hid hfoot
                replace hapt := Lib.hid hapt
                replace hRc := Lib.hid hRc
                replace hft := Lib.hid hft
                replace hQ := Lib.hid hQ
                replace h0 := Lib.hid h0
                replace hf := Lib.hid hf
                go_wp2_with fail
                refine hql.out.out.mono ?_
                rintro e w2 ⟨v, rfl, hr, hK⟩
                have hsl := slc_of_row hr
                have hlo := fun r hr2 => (row_own hr r hr2).1
                obtain ⟨q5, cap5, rfl, _, hcap5⟩ : ∃ q5 cap5, v = .slice q5 (xs.length + 1) cap5 ∧ True ∧ True := by
                  obtain ⟨q, cp, hv, _⟩ := hsl
                  exact ⟨q, cp, by simpa using hv, trivial, trivial⟩
                replace hK := Lib.hid hK
                replace hsl := Lib.hid hsl
                replace hlo := Lib.hid hlo
                clear hr hql
                go_wp2_with fail
                refine (hbe.out w2 hK.out).mono ?_
                rintro e w3 ⟨rfl, hP3, hB3, hC3⟩
                have hsl3 := Slc.chg hsl.out hC3 (fun b hb hF => by have := hlo.out b hb; have := hfoot.out b hF; omega)
                obtain ⟨q', cap', hv5, _, _, _, hcell5⟩ := hsl3
                obtain ⟨b5, off5, hp5, hc5⟩ := hcell5 0 (by simp)
                simp only [Value.slice.injEq] at hv5
                obtain rfl : q5 = some ⟨b5, off5, none⟩ := hv5.1.trans hp5
                simp only [List.map_cons, List.getD_cons_zero, Nat.add_zero] at hc5
                have hcM := hB3.cellK (rowO_get fo t (by omega))
                rw [hft.out] at hcM
                have hql2 := queueL_any hP3.at' (c : Int)
                rw [qL_nat, hRc.out] at hql2
                replace hP3 := Lib.hid hP3
                replace hB3 := Lib.hid hB3
                replace hql2 := Lib.hid hql2
                clear hC3 hv5 hp5 hcell5 hbe
                go_wp2_with fail
                refine hql2.out.mono ?_
                rintro e w4 ⟨v, rfl, hr, hK4⟩
                obtain ⟨q6, cap6, rfl⟩ : ∃ q6 cap6, v = .slice q6 xs.length cap6 := by
                  obtain ⟨q, cp, hv, _⟩ := slc_of_row hr
                  exact ⟨q, cp, by simpa using hv⟩
                have hP4 := hP3.out.kept hK4
                have hB4 := hB3.out.keeps hK4
                replace hP4 := Lib.hid hP4
                replace hB4 := Lib.hid hB4
                clear hr hql2 hcM hc5 hP3 hB3 hK4
                go_wp2_with fail
                go_loopw [14] (fun i wr => ∃ j : Nat, j ≤ 32 ∧ i = .int .i64 (j : Int) ∧ wr = w4) (fun i _ => 32 - (intOf i).toNat)
                case atStart => exact ⟨0, by omega, rfl, rfl⟩
                case round =>
                  obtain ⟨j, hj, rfl, hw⟩ := hrel
                  subst hw
                  by_cases hjl : j < 32
                  · have hjI : (j : Int) < 32 := by omega
                    have hj0 : (0 : Int) ≤ (j : Int) := by omega
                    have hcj := hB4.out.cellK (rowO_get fo j hjl)
                    have hnj := hno.out j hjl
                    generalize fo j - 1 = z at *
                    go_wp2_with fail
                    go_roundw
                    case rel => exact ⟨j + 1, by omega, by go_num, trivial⟩
                    case measure => (simp [intOf]; try omega)
                  · obtain rfl : j = 32 := by omega
                    have hcj := hB4.out.cellK (rowO_get fo t (by omega))
                    have hfj := hB4.out.frozen t
                    have hset := OI25.set hP4.out hrun.out hB4.out hown hapt.out t ((y : Int) + 1) rfl
                    rw [show (y : Int) + 1 - 1 = y by omega] at hset
                    replace hset := Lib.hid hset
                    generalize fo t - 1 = z at *
                    go_wp2_with fail
                    go_meet
                    exact ⟨_, _, _, hset.out⟩
            · -- End
              as_aux_lemma =>
              have htt : t < 32 := by omega
              have hcM := hO.out.cell t htt
              have hfM := hO.out.row.frozen t
              have hown := hO.out.own
              have hapt := hO.out.apart
              rcases hO.out.run t htt with h0 | ⟨y, hy, h1, h2⟩
              · have he := pend_no hO.out.pi.at' t (.inr ⟨t, htt, rfl, h0⟩)
                have hset := OI25.set hO.out.pi hO.out.run hO.out.row hown hapt t 0 (updI_same fo t h0).symm
                rw [show (0 : Int) - 1 = -1 from rfl] at hset
                rw [h0, show (0 : Int) - 1 = -1 from rfl] at hcM
                replace he := Lib.hid he
                replace hset := Lib.hid hset
                replace hapt := Lib.hid hapt
                replace h0 := Lib.hid h0
                go_wp2_with fail
                refine he.out.mono ?_
                rintro e w2 ⟨rfl, rfl⟩
                go_wp2_with fail
                go_meet
                exact ⟨_, _, _, hset.out⟩
              · have he := hO.out.endY t y htt hy h1
                have hrun := hO.out.run.endY h2
                have hy0 : (0 : Int) ≤ (y : Int) := by omega
                have hft : fo t - 1 = (y : Int) := by omega
                replace he := Lib.hid he
                replace hrun := Lib.hid hrun
                replace hapt := Lib.hid hapt
                replace h1 := Lib.hid h1
                replace h2 := Lib.hid h2
                clear hcM hfM
                go_wp2_with fail
                refine he.out.mono ?_
                rintro e w2 ⟨rfl, hP2, hB2⟩
                have hcM := hB2.cellK (rowO_get fo t htt)
                rw [hft] at hcM
                have hfM := hB2.frozen t
                have hset := OI25.set hP2 hrun.out hB2 hown hapt.out t 0 rfl
                rw [show (0 : Int) - 1 = -1 from rfl] at hset
                replace hset := Lib.hid hset
                replace hft := Lib.hid hft
                clear hP2 hB2
                go_wp2_with fail
                go_meet
                exact ⟨_, _, _, hset.out⟩
          case rest =>
            obtain ⟨fr2, fo2, R2, hO2⟩ := hcut
            obtain ⟨W2, hW2⟩ : ∃ W2, W2 = wc := ⟨_, rfl⟩
            rw [← hW2] at hO2 ⊢
            clear hW2 hO y0 ek ec ex et
            have hR2l := hO2.pi.at'.len
            have hle := fun j (hj : j ≤ 4) => lenTo_le R2 (fun i hi => by obtain ⟨hd, hR⟩ := hO2.pi.at'.ring i (by omega); exact hR.len) j (by omega)
            replace hO2 := Lib.hid hO2
            replace hle := Lib.hid hle
            go_wp2_with fail
            go_loopw [17, 18] (fun n j wr => ∃ m : Nat, m ≤ 4 ∧ j = .int .i64 (m : Int) ∧ n = .int .i64 (lenTo R2 m : Nat) ∧ Keeps W2 wr) (fun _ j _ => 4 - (intOf j).toNat)
            case atStart => exact ⟨0, by omega, rfl, rfl, Keeps.refl _⟩
            case round =>
              obtain ⟨m, hm, rfl, rfl, hK⟩ := hrel
              obtain ⟨wm, hwm⟩ : ∃ wm : World, wm = wr := ⟨_, rfl⟩
              rw [← hwm] at hK ⊢
              clear hwm
              by_cases hm4 : m < 4
              · have hmI : (m : Int) < 4 := by omega
                have hm0 : (0 : Int) ≤ (m : Int) := by omega
                have hql := queueL_any (hO2.out.pi.at'.keeps hK) (m : Int)
                rw [qL_nat] at hql
                have hs := lenTo_succ R2 m (by omega)
                have hl1 := hle.out m hm
                obtain ⟨Q, hQ⟩ : ∃ Q, Q = R2.getD m [] := ⟨_, rfl⟩
                have hQl : Q.length ≤ 256 := by rw [hQ]; obtain ⟨hd, hR⟩ := hO2.out.pi.at'.ring m hm4; exact hR.len
                have hnd : Q.Nodup := by rw [hQ]; exact hO2.out.pi.ok.nd m
                have hwh : ∀ i (hi : i < Q.length), whB R2 Q[i] = true ∧ whC R2 Q[i] = (m : Int) := fun i hi => whC_eq hO2.out.pi.ok (by rw [← hQ]; exact List.getElem_mem hi)
                rw [← hQ] at hql hs
                have hq0 : (0 : Int) ≤ (Q.length : Int) := by omega
                generalize lenTo R2 m = T at *
                replace hql := Lib.hid hql
                replace hs := Lib.hid hs
                replace hnd := Lib.hid hnd
                replace hwh := Lib.hid hwh
                replace hQ := Lib.hid hQ
                go_wp2_with fail
                refine hql.out.mono ?_
                rintro e w3 ⟨v, rfl, hr, hK3⟩
                obtain ⟨q5, cap5, hv5, _, _, _, hcell5⟩ := slc_of_row hr
                rw [List.length_map] at hv5 hcell5
                subst hv5
                have hK3' : Keeps W2 w3 := Keeps.trans hK hK3
                have hsl : ∀ wq, Keeps w3 wq → ∀ i (hi : i < Q.length), ∃ b off, q5 = some ⟨b, off, none⟩ ∧ wq.cell? ⟨b, off + i, none⟩ = some (.int .i64 Q[i]) := fun wq hKq i hi => by
                  obtain ⟨b, off, h1, h2⟩ := hcell5 i hi
                  refine ⟨b, off, h1, (World.cell?_of_block (a := ⟨b, off + i, none⟩) (hKq.block b (cell_lt h2))).trans ?_⟩
                  rw [h2]; simp [List.getD, hi]
                replace hsl := Lib.hid hsl
                replace hK3' := Lib.hid hK3'
                clear hr hcell5 hK3
                go_wp2_with fail
                go_loopw [20] (fun a wr => ∃ i : Nat, i ≤ Q.length ∧ a = .int .i64 (i : Int) ∧ Keeps w3 wr) (fun a _ => Q.length - (intOf a).toNat)
                case atStart => exact ⟨0, by omega, rfl, Keeps.refl _⟩
                case round =>
                  obtain ⟨i, hi, rfl, hKi⟩ := hrel
                  obtain ⟨wi, hwi⟩ : ∃ wi : World, wi = wr := ⟨_, rfl⟩
                  rw [← hwi] at hKi ⊢
                  clear hwi
                  by_cases hil : i < Q.length
                  · have hiI := Int.ofNat_lt.2 hil
                    have hi0 : (0 : Int) ≤ (i : Int) := by omega
                    obtain ⟨b5, off5, rfl, hci⟩ := hsl.out wi hKi i hil
                    have hw := where_any (hO2.out.pi.at'.keeps (hK3'.out.trans hKi)) Q[i]
                    rw [(hwh.out i hil).1, (hwh.out i hil).2] at hw
                    obtain ⟨x, hx⟩ : ∃ x, x = Q[i] := ⟨_, rfl⟩
                    rw [← hx] at hw hci
                    replace hw := Lib.hid hw
                    replace hx := Lib.hid hx
                    go_wp2_with fail
                    refine hw.out.mono ?_
                    rintro e w4 ⟨rfl, hK4⟩
                    have hK34 : Keeps w3 w4 := hKi.trans hK4
                    replace hK34 := Lib.hid hK34
                    clear hci
                    go_wp2_with fail
                    go_loopw [23] (fun a wr => ∃ j : Nat, j ≤ i ∧ a = .int .i64 (j : Int) ∧ Keeps w4 wr) (fun a _ => i - (intOf a).toNat)
                    case atStart => exact ⟨0, by omega, rfl, Keeps.refl _⟩
                    case round =>
                      obtain ⟨j, hj, rfl, hKj⟩ := hrel
                      by_cases hjl : j < i
                      · have hjI := Int.ofNat_lt.2 hjl
                        have hj0 : (0 : Int) ≤ (j : Int) := by omega
                        have hjQ : j < Q.length := by omega
                        have hjQI := Int.ofNat_lt.2 hjQ
                        obtain ⟨b6, off6, h6, hcj⟩ := hsl.out wr (hK34.out.trans hKj) j hjQ
                        obtain ⟨b7, off7, h7, hck⟩ := hsl.out wr (hK34.out.trans hKj) i hil
                        simp only [Option.some.injEq, Addr.mk.injEq, and_true] at h6 h7
                        obtain ⟨rfl, rfl⟩ := h6
                        obtain ⟨rfl, rfl⟩ := h7
                        have hne : ¬ Q[j] = x := by
                          rw [hx.out]
                          intro e
                          exact nodup_at hnd.out hjl hil e
                        rw [← hx.out] at hck
                        generalize Q[j] = z at *
                        go_wp2_with fail
                        go_quiet (fail)
                        rename_i nq2
                        go_wp2_with fail
                        go_roundw
                        case rel => exact ⟨j + 1, by omega, by go_num, hKj.trans (Keeps.drewN _ _)⟩
                        case measure => (simp [intOf]; try omega)
                      · obtain rfl : j = i := by omega
                        have hK5 : Keeps w3 wr := hK34.out.trans hKj
                        replace hK5 := Lib.hid hK5
                        go_wp2_with fail
                        go_roundw
                        case rel => exact ⟨j + 1, by omega, by go_num, hK5.out⟩
                        case measure => (simp [intOf]; try omega)
                  · obtain rfl : i = Q.length := by omega
                    have hK5 : Keeps W2 wi := hK3'.out.trans hKi
                    replace hK5 := Lib.hid hK5
                    go_wp2_with fail
                    go_roundw
                    case rel => exact ⟨m + 1, by omega, by go_num, by rw [hs.out, Int.natCast_add], hK5.out⟩
                    case measure => (simp [intOf]; try omega)
              · obtain rfl : m = 4 := by omega
                have hpl := plen_any (hO2.out.pi.at'.keeps hK)
                have hO3 := hO2.out.kept hK
                replace hpl := Lib.hid hpl
                replace hO3 := Lib.hid hO3
                generalize lenTo R2 4 = T at *
                go_wp2_with fail
                refine hpl.out.mono ?_
                rintro e w3 ⟨rfl, rfl⟩
                go_wp2_with fail
                go_roundw
                case rel => exact ⟨k + 1, _, _, _, by omega, by omega, by go_num, hO3.out⟩
                case measure => (simp [intOf]; try omega)
        · have hK := hO.pi.keeps
          replace hO := Lib.hid hO
          have hgoI : ¬ ((k : Int) < (acts.length : Int)) ∨ ((k : Int) < (acts.length : Int) ∧ ¬ ((k : Int) < 80)) := by omega
          rcases hgoI with hg | ⟨hg, hg2⟩
          all_goals
            go_wp2_with fail
            refine (hkn.out _).mono ?_
            rintro e w3 ⟨rfl, hK3⟩
            replace hK3 := Lib.hid hK3
            go_wp2_with fail
            go_ret
            exact ⟨rfl, Keeps.trans hK hK3.out⟩
end Go.Proofs.Ytlihpmfponkmjaa
