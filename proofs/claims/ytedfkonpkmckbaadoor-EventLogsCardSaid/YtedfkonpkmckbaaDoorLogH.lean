/- The document's Put and Of. -/
import Derived.Test.YtedfkonpkmckbaaDoorLogG
import Derived.Test.YtedfkonpkmckbaaDoorQuietRow
namespace Go.Proofs.YtedfkonpkmckbaaDoor
open Go.RowKit

theorem infoEvR : (Tryd.prog.info? 24).map (fun i => (i.zero, i.size, i.bytes)) = some (some (.agg #[.int .u64 0, .int .i64 0, .int .i64 0, .int .i64 0, .int .u64 0]), 5, 40) := by kernel_rfl
theorem word_isEmpty (k : Int) : (str (wordB k)).toList.isEmpty = !isKd k := by
  rw [str_toList]
  cases hk : isKd k with
  | false => rw [(wordB_empty k).2 hk]; rfl
  | true =>
    cases hw : wordB k with
    | nil => rw [(wordB_empty k).1 hw] at hk; cases hk
    | cons _ _ => rfl
theorem rowS_keeps {W W' : World} {sz m : Nat} {e : TypeId} {v : Value} {els : List (List Value)} (h : RowS sz m e W v els) (hk : Keeps W W') : RowS sz m e W' v els := rowS_chg h (Chg.of_keeps (S := fun _ => False) hk) (fun _ _ h => h)
theorem mem_evC {evs : List EvS} : ∀ el ∈ evs.map evC, ∀ y ∈ el, y.oneCell' = true := by
  intro el hel y hy
  obtain ⟨e, _, rfl⟩ := List.mem_map.1 hel
  exact evC_one e y hy
set_option maxRecDepth 100000 in
set_option maxHeartbeats 4000000 in
/-- **The document's Put**, in new memory. -/
theorem rput_any {w : World} {mv xv : Value} {ms xs : List EvS} (hm : SlcS 5 w mv (ms.map evC)) (hx : SlcS 5 w xv (xs.map evC)) (h4 : ms.length ≤ 4096) (hxl : xs.length ≤ 1000000) :
    Calls Tryd.prog 18 #[mv, xv, .int .i64 4096] w fun r w' => ∃ u, r = .returned (.tuple #[u, .int .i64 (putS (ms, 0) xs).2]) ∧ RowS 5 w.heap.size 24 w' u ((putS (ms, 0) xs).1.map evC) ∧ Keeps w w' := by
  obtain ⟨q, xc, rfl, hl', hc', hcell'⟩ := hx.get
  rw [List.length_map] at hl' hcell' ⊢
  have hown := RowS.empty 5 w.heap.size 24 w (Nat.le_refl _)
  have hsrc := hm.below (Keeps.alloc w (.cells #[] 24))
  have hB0 := Keeps.alloc w (.cells #[] 24)
  have hx0 : (0 : Int) ≤ (xs.length : Int) := by omega
  clear hm hx
  replace hcell' := Lib.hid hcell'
  go_enter Tryd.func18, Tryd.ntmps18
  go_wp2_with (at_builtin; refine appN rfl _ _ 42 24 _ 5 40 rfl Tryd.underlying42 infoEvR rfl (by decide) w.heap.size _ _ rfl hown _ _ rfl hsrc mem_evC ?_ ?_ ?_ ?_)
  · rw [List.length_map]; unfold maxLen; simp; omega
  · rw [List.length_map]; simp; omega
  · exact hB0.size
  · intro v' w1 hown' _ hbel
    have hK1 : Keeps w w1 := Below.trans hB0 hbel
    replace hown' := Lib.hid hown'
    replace hK1 := Lib.hid hK1
    clear hown hsrc hbel hB0
    go_wp2_with fail
    go_loopw [8, 9, 10] (fun o n i wr => ∃ k : Nat, k ≤ xs.length ∧ i = .int .i64 (k : Int) ∧ n = .int .i64 (putS (ms, 0) (xs.take k)).2 ∧ RowS 5 w.heap.size 24 wr o ((putS (ms, 0) (xs.take k)).1.map evC) ∧ Keeps w wr) (fun _ _ i _ => xs.length - (intOf i).toNat)
    case atStart => exact ⟨0, Nat.zero_le _, rfl, rfl, hown'.out, hK1.out⟩
    case round =>
      clear hown' hK1
      obtain ⟨k, hk, rfl, rfl, hrow, hK⟩ := hrel
      have hk0 : (0 : Int) ≤ (k : Int) := by omega
      by_cases hlt : k < xs.length
      · have hltI := Int.ofNat_lt.2 hlt
        have hstep := putS_take (ms, 0) xs k hlt
        have hlen := putS_len (xs.take k) (ms, 0) h4
        have hlost := putS_lost (xs.take k) (ms, 0)
        rw [List.length_take, Nat.min_eq_left hk] at hlost
        obtain ⟨cb, off, rfl, hcell⟩ := hcell'.out k hlt
        have e0 : (xs.map evC).getD k [] = evC xs[k] := by simp [List.getD, hlt]
        rw [e0] at hcell
        generalize putS (ms, 0) (xs.take k) = s at *
        generalize xs[k] = e at *
        obtain ⟨oq, oc, hos, _⟩ := hrow.slcs.get
        rw [List.length_map] at hos
        subst hos
        obtain ⟨t, kd, a, b, n⟩ := e
        have hem := word_isEmpty kd
        have f2 := rword_any kd
        obtain ⟨x0, x1, x2, x3, x4⟩ := evCells (fun j hj => kcell hK (hcell j hj))
        generalize str (wordB kd) = s2 at *
        have hs20 : 0 ≤ s.2 := by have := hlost.1; simp only at this; omega
        have hs21 : s.2 ≤ 1000000 := by have := hlost.2; simp only at this; omega
        replace hstep := Lib.hid hstep
        replace f2 := Lib.hid f2
        clear hcell e0 hlost
        cases hkd : isKd kd with
        | false =>
          rw [hkd] at hem
          have hp1 : put1 s ⟨t, kd, a, b, n⟩ = s := by unfold put1; rw [if_pos hkd]
          have hst := hstep.out
          rw [hp1] at hst
          replace hst := Lib.hid hst
          replace hK := Lib.hid hK
          replace hrow := Lib.hid hrow
          clear hstep hp1
          go_wp2_with fail
          with_reducible refine (f2.out _).mono ?_
          rintro r w2 ⟨rfl, hK2⟩
          have hrow2 := Lib.hid (rowS_keeps hrow.out hK2)
          have hKe := Lib.hid (Keeps.trans hK.out hK2)
          clear hrow hK hK2 x0 x1 x2 x3 x4
          go_wp2_with fail
          go_roundw
          case rel => exact ⟨k + 1, by omega, by go_num, by rw [hst.out], by rw [hst.out]; exact hrow2.out, hKe.out⟩
          case measure => (simp [intOf]; try omega)
        | true =>
          rw [hkd] at hem
          by_cases hfull : s.1.length = 4096
          · have hp1 : put1 s ⟨t, kd, a, b, n⟩ = (s.1, s.2 + 1) := by unfold put1; rw [if_neg (by show ¬ isKd kd = false; rw [hkd]; decide), if_pos hfull]
            have hst := hstep.out
            rw [hp1] at hst
            replace hfull := Lib.hid hfull
            have hfd : decide (((s.1.length : Nat) : Int) < 4096) = false := decide_eq_false (by have := hfull.out; omega)
            have hwr : IntKind.i64.wrap (s.2 + 1) = s.2 + 1 := IntWalk.i64_in _ (by omega)
            replace hst := Lib.hid hst
            replace hK := Lib.hid hK
            replace hrow := Lib.hid hrow
            clear hstep hp1
            go_wp2_with fail
            with_reducible refine (f2.out _).mono ?_
            rintro r w2 ⟨rfl, hK2⟩
            have hrow2 := Lib.hid (rowS_keeps hrow.out hK2)
            have hKe := Lib.hid (Keeps.trans hK.out hK2)
            clear hrow hK hK2 x0 x1 x2 x3 x4
            go_wp2_with fail
            go_roundw
            case rel => exact ⟨k + 1, by omega, by go_num, by rw [hst.out], by rw [hst.out]; exact hrow2.out, hKe.out⟩
            case measure => (simp [intOf]; try omega)
          · have hp1 : put1 s ⟨t, kd, a, b, n⟩ = (s.1 ++ [⟨t, kd, a, b, n⟩], s.2) := by unfold put1; rw [if_neg (by show ¬ isKd kd = false; rw [hkd]; decide), if_neg hfull]
            have hst := hstep.out
            rw [hp1] at hst
            have hfd : decide (((s.1.length : Nat) : Int) < 4096) = true := decide_eq_true (by omega)
            have hl40 : s.1.length + 1 ≤ 4096 := by omega
            have hlen1 : (s.1.map evC).length + [evC ⟨t, kd, a, b, n⟩].length ≤ maxLen := by rw [List.length_map]; simp only [maxLen, List.length_singleton]; omega
            have hlen2 : ((s.1.map evC).length + [evC ⟨t, kd, a, b, n⟩].length) * 40 ≤ 140737488355328 := by rw [List.length_map]; simp only [List.length_singleton]; omega
            have hx5 := Lib.hid (show ∀ w', Keeps wr w' → _ from fun w' h => (⟨kcell h x0, kcell h x1, kcell h x2, kcell h x3, kcell h x4⟩ : w'.cell? ⟨cb, off + k * 5, none⟩ = some (.int .u64 (t : Int)) ∧ w'.cell? ⟨cb, off + k * 5 + 1, none⟩ = some (.int .i64 kd) ∧ w'.cell? ⟨cb, off + k * 5 + 2, none⟩ = some (.int .i64 a) ∧ w'.cell? ⟨cb, off + k * 5 + 3, none⟩ = some (.int .i64 b) ∧ w'.cell? ⟨cb, off + k * 5 + 4, none⟩ = some (.int .u64 (n : Int))))
            replace hst := Lib.hid hst
            replace hK := Lib.hid hK
            replace hrow := Lib.hid hrow
            replace hlen1 := Lib.hid hlen1
            replace hlen2 := Lib.hid hlen2
            clear hstep hp1
            go_wp2_with fail
            with_reducible refine (f2.out _).mono ?_
            rintro r w2 ⟨rfl, hK2⟩
            obtain ⟨z0, z1, z2, z3, z4⟩ := hx5.out w2 hK2
            have hrow2 := rowS_keeps (rowS_keeps hrow.out hK2) (Keeps.alloc w2 (.cells #[.int .u64 (t : Int), .int .i64 kd, .int .i64 a, .int .i64 b, .int .u64 (n : Int)] 24))
            have hKe := Keeps.trans (Keeps.trans hK.out hK2) (Keeps.alloc w2 (.cells #[.int .u64 (t : Int), .int .i64 kd, .int .i64 a, .int .i64 b, .int .u64 (n : Int)] 24))
            have hsrc : SlcS 5 _ _ _ := slcs_one (Blk.new w2 24 (evC ⟨t, kd, a, b, n⟩)) rfl
            replace hrow2 := Lib.hid hrow2
            replace hKe := Lib.hid hKe
            replace hsrc := Lib.hid hsrc
            clear hrow hK hK2 x0 x1 x2 x3 x4 hx5
            go_wp2_with (at_builtin; refine appN rfl _ _ 42 24 _ 5 40 rfl Tryd.underlying42 infoEvR rfl (by decide) w.heap.size _ _ rfl hrow2.out _ [evC ⟨t, kd, a, b, n⟩] rfl hsrc.out (fun el he => by obtain rfl := List.mem_singleton.1 he; exact evC_one _) hlen1.out hlen2.out hKe.out.size ?_; intro v3 w3 hown3 hgr3 hbel3; have hK3 := Lib.hid (Below.trans hKe.out hbel3); replace hown3 := Lib.hid hown3; clear hgr3 hbel3)
            go_roundw
            case rel => exact ⟨k + 1, by omega, by go_num, by rw [hst.out], by rw [hst.out, List.map_append]; exact hown3.out, hK3.out⟩
            case measure => (simp [intOf]; try omega)
      · obtain rfl : k = xs.length := by omega
        rw [List.take_length] at hrow ⊢
        replace hK := Lib.hid hK
        replace hrow := Lib.hid hrow
        go_wp2_with fail
        go_ret2
        exact ⟨_, rfl, hrow.out, hK.out⟩
end Go.Proofs.YtedfkonpkmckbaaDoor
