/- The law PendNil. -/
import Derived.Test.YtlihpmfponkmjaaLaw25
namespace Go.Proofs.Ytlihpmfponkmjaa
open Go.RowKit i64

set_option maxRecDepth 100000 in
set_option maxHeartbeats 2000000 in
theorem lawNil25_any (n id : Int) (w : World) : Calls Try.prog 6 #[.int .i64 n, .int .i64 id] w fun e w' => e = .returned (.bool true) ∧ Keeps w w' := by
  have hnew : ∃ (q : Option Addr) (er : Int), Calls Try.prog 7 #[.int .i64 n] w (fun e w' => (∃ q', e = .returned (.tuple #[.pointer q', .int .i64 er]) ∧ (er = 2 → q' = q)) ∧ Keeps w w') ∧ ((1 ≤ n ∧ n ≤ 64 ∧ er = 0) ∨ (n < 1 ∧ er = 2 ∧ q = none) ∨ (1 ≤ n ∧ 64 < n ∧ er = 2 ∧ q = none)) := by
    by_cases hc : n < 1 ∨ 64 < n
    · refine ⟨none, 2, (pnew_no n w hc).mono ?_, .inr (by rcases Int.lt_or_le n 1 with h | h; exact .inl ⟨h, rfl, rfl⟩; exact .inr ⟨h, by omega, rfl, rfl⟩)⟩
      rintro e w' ⟨rfl, rfl⟩
      exact ⟨⟨_, rfl, fun _ => rfl⟩, Keeps.refl _⟩
    · obtain ⟨k, rfl⟩ : ∃ k : Nat, n = k := ⟨n.toNat, by omega⟩
      refine ⟨none, 0, (pnew_yes k w (by omega) (by omega)).mono ?_, .inl ⟨by omega, by omega, rfl⟩⟩
      rintro e w' ⟨p, rb, cap, pp, bb, rfl, _, _, hK⟩
      exact ⟨⟨_, rfl, fun h => by cases h⟩, hK⟩
  obtain ⟨q, er, hnew, hcase⟩ := hnew
  have hb := fun W => begin_nil n id W
  have he := fun W => pend_nil n W
  have hw := fun W => where_nil id W
  have hr := fun W => runs_nil id W
  have ho := fun W => of_nil n W
  have hy := fun W => ready_nil n W
  have hk := fun W => known25_any W
  have ha := fun v W => padd_nil n v W
  have hd := fun (W : World) (b : Nat) (e : b = W.heap.size) => pdel_nil (.slice (some ⟨b, 0, none⟩) 1 1) [id] (show Ints (W.alloc (.cells #[.int .i64 id] 3)) (.slice (some ⟨b, 0, none⟩) 1 1) [id] from e ▸ ints_one25 W id)
  have hq := fun W => queueL_nil n W
  have hl := fun W => plen_nil W
  replace hnew := Lib.hid hnew
  replace hb := Lib.hid hb
  replace he := Lib.hid he
  replace hw := Lib.hid hw
  replace hr := Lib.hid hr
  replace ho := Lib.hid ho
  replace hy := Lib.hid hy
  replace hk := Lib.hid hk
  replace ha := Lib.hid ha
  replace hd := Lib.hid hd
  replace hq := Lib.hid hq
  replace hl := Lib.hid hl
  rcases hcase with ⟨h1, h2, rfl⟩ | ⟨h1, rfl, rfl⟩ | ⟨h1, h2, rfl, rfl⟩
  · as_aux_lemma =>
    go_enter Try.func6, Try.ntmps6
    go_wp2_with fail
    refine hnew.out.mono ?_
    rintro e w1 ⟨⟨q', rfl, hq'⟩, hK1⟩
    clear hq'
    replace hK1 := Lib.hid hK1
    go_wp2_with fail
    with_reducible refine (hb.out _).mono ?_
    rintro e w' ⟨rfl, rfl⟩
    go_wp2_with fail
    with_reducible refine (he.out _).mono ?_
    rintro e w' ⟨rfl, rfl⟩
    go_wp2_with fail
    with_reducible refine (hw.out _).mono ?_
    rintro e w2 ⟨rfl, hK2⟩
    replace hK2 := Lib.hid hK2
    go_wp2_with fail
    with_reducible refine (hr.out _).mono ?_
    rintro e w' ⟨rfl, rfl⟩
    go_wp2_with fail
    with_reducible refine (ho.out _).mono ?_
    rintro e w' ⟨rfl, rfl⟩
    go_wp2_with fail
    with_reducible refine (hy.out _).mono ?_
    rintro e w' ⟨rfl, rfl⟩
    go_wp2_with fail
    with_reducible refine (hk.out _).mono ?_
    rintro e w3 ⟨rfl, hK3⟩
    replace hK3 := Lib.hid hK3
    go_wp2_with fail
    with_reducible refine (ha.out _ _).mono ?_
    rintro e w' ⟨rfl, rfl⟩
    go_wp2_with fail
    with_reducible refine (hd.out _ _ (World.size_alloc _ _).symm).mono ?_
    rintro e w4 ⟨rfl, hK4⟩
    replace hK4 := Lib.hid hK4
    go_wp2_with fail
    with_reducible refine (hq.out _).mono ?_
    rintro e w5 ⟨rfl, hK5⟩
    replace hK5 := Lib.hid hK5
    go_wp2_with fail
    with_reducible refine (hl.out _).mono ?_
    rintro e w' ⟨rfl, rfl⟩
    go_wp2_with fail
    go_ret
    exact ⟨rfl, Keeps.trans hK1.out (Keeps.trans hK2.out (Keeps.trans hK3.out (Keeps.trans ((Keeps.alloc _ _).trans (Keeps.alloc _ _)) (Keeps.trans hK4.out hK5.out))))⟩
  · as_aux_lemma =>
    go_enter Try.func6, Try.ntmps6
    go_wp2_with fail
    refine hnew.out.mono ?_
    rintro e w1 ⟨⟨q', rfl, hq'⟩, hK1⟩
    obtain rfl := hq' trivial
    replace hK1 := Lib.hid hK1
    go_wp2_with fail
    with_reducible refine (hb.out _).mono ?_
    rintro e w' ⟨rfl, rfl⟩
    go_wp2_with fail
    with_reducible refine (he.out _).mono ?_
    rintro e w' ⟨rfl, rfl⟩
    go_wp2_with fail
    with_reducible refine (hw.out _).mono ?_
    rintro e w2 ⟨rfl, hK2⟩
    replace hK2 := Lib.hid hK2
    go_wp2_with fail
    with_reducible refine (hr.out _).mono ?_
    rintro e w' ⟨rfl, rfl⟩
    go_wp2_with fail
    with_reducible refine (ho.out _).mono ?_
    rintro e w' ⟨rfl, rfl⟩
    go_wp2_with fail
    with_reducible refine (hy.out _).mono ?_
    rintro e w' ⟨rfl, rfl⟩
    go_wp2_with fail
    with_reducible refine (hk.out _).mono ?_
    rintro e w3 ⟨rfl, hK3⟩
    replace hK3 := Lib.hid hK3
    go_wp2_with fail
    with_reducible refine (ha.out _ _).mono ?_
    rintro e w' ⟨rfl, rfl⟩
    go_wp2_with fail
    with_reducible refine (hd.out _ _ (World.size_alloc _ _).symm).mono ?_
    rintro e w4 ⟨rfl, hK4⟩
    replace hK4 := Lib.hid hK4
    go_wp2_with fail
    with_reducible refine (hq.out _).mono ?_
    rintro e w5 ⟨rfl, hK5⟩
    replace hK5 := Lib.hid hK5
    go_wp2_with fail
    with_reducible refine (hl.out _).mono ?_
    rintro e w' ⟨rfl, rfl⟩
    go_wp2_with fail
    go_ret
    exact ⟨rfl, Keeps.trans hK1.out (Keeps.trans hK2.out (Keeps.trans hK3.out (Keeps.trans ((Keeps.alloc _ _).trans (Keeps.alloc _ _)) (Keeps.trans hK4.out hK5.out))))⟩
  · as_aux_lemma =>
    go_enter Try.func6, Try.ntmps6
    go_wp2_with fail
    refine hnew.out.mono ?_
    rintro e w1 ⟨⟨q', rfl, hq'⟩, hK1⟩
    obtain rfl := hq' trivial
    replace hK1 := Lib.hid hK1
    go_wp2_with fail
    with_reducible refine (hb.out _).mono ?_
    rintro e w' ⟨rfl, rfl⟩
    go_wp2_with fail
    with_reducible refine (he.out _).mono ?_
    rintro e w' ⟨rfl, rfl⟩
    go_wp2_with fail
    with_reducible refine (hw.out _).mono ?_
    rintro e w2 ⟨rfl, hK2⟩
    replace hK2 := Lib.hid hK2
    go_wp2_with fail
    with_reducible refine (hr.out _).mono ?_
    rintro e w' ⟨rfl, rfl⟩
    go_wp2_with fail
    with_reducible refine (ho.out _).mono ?_
    rintro e w' ⟨rfl, rfl⟩
    go_wp2_with fail
    with_reducible refine (hy.out _).mono ?_
    rintro e w' ⟨rfl, rfl⟩
    go_wp2_with fail
    with_reducible refine (hk.out _).mono ?_
    rintro e w3 ⟨rfl, hK3⟩
    replace hK3 := Lib.hid hK3
    go_wp2_with fail
    with_reducible refine (ha.out _ _).mono ?_
    rintro e w' ⟨rfl, rfl⟩
    go_wp2_with fail
    with_reducible refine (hd.out _ _ (World.size_alloc _ _).symm).mono ?_
    rintro e w4 ⟨rfl, hK4⟩
    replace hK4 := Lib.hid hK4
    go_wp2_with fail
    with_reducible refine (hq.out _).mono ?_
    rintro e w5 ⟨rfl, hK5⟩
    replace hK5 := Lib.hid hK5
    go_wp2_with fail
    with_reducible refine (hl.out _).mono ?_
    rintro e w' ⟨rfl, rfl⟩
    go_wp2_with fail
    go_ret
    exact ⟨rfl, Keeps.trans hK1.out (Keeps.trans hK2.out (Keeps.trans hK3.out (Keeps.trans ((Keeps.alloc _ _).trans (Keeps.alloc _ _)) (Keeps.trans hK4.out hK5.out))))⟩
end Go.Proofs.Ytlihpmfponkmjaa
