/- The walks of package scan. -/
import Derived.Test.YtefippjakkgjkaaDoorScanM
import Derived.Test.YtefippjakkgjkaaDoorSectD
namespace Go.Proofs.YtefippjakkgjkaaDoor
open Go.RowKit

/-- A scan at x of sections at p. -/
structure ScanAt (w : World) (x p : Nat) (S : SSt) (c : ScSt) : Prop where
  hdr : Blk w x 131 [.pointer (some ⟨p, 0, none⟩), .int .u64 (c.left : Int), .int .i64 (c.began : Int), .int .i64 (c.place : Int)]
  sect : SectAt w p S
  ok : c.Ok
  ne : x ≠ p
theorem ScanAt.keeps {w w' : World} {x p : Nat} {S : SSt} {c : ScSt} (h : ScanAt w x p S c) (hk : Keeps w w') : ScanAt w' x p S c := ⟨h.hdr.keeps hk, h.sect.keeps hk, h.ok, h.ne⟩
theorem ScanAt.c0 {w : World} {x p : Nat} {S : SSt} {c : ScSt} (h : ScanAt w x p S c) : w.cell? ⟨x, 0, none⟩ = some (.pointer (some ⟨p, 0, none⟩)) := h.hdr.cell 0 (by simp)
theorem ScanAt.c1 {w : World} {x p : Nat} {S : SSt} {c : ScSt} (h : ScanAt w x p S c) : w.cell? ⟨x, 1, none⟩ = some (.int .u64 (c.left : Int)) := h.hdr.cell 1 (by simp)
theorem ScanAt.c2 {w : World} {x p : Nat} {S : SSt} {c : ScSt} (h : ScanAt w x p S c) : w.cell? ⟨x, 2, none⟩ = some (.int .i64 (c.began : Int)) := h.hdr.cell 2 (by simp)
theorem ScanAt.c3 {w : World} {x p : Nat} {S : SSt} {c : ScSt} (h : ScanAt w x p S c) : w.cell? ⟨x, 3, none⟩ = some (.int .i64 (c.place : Int)) := h.hdr.cell 3 (by simp)
theorem ScanAt.setLeft {w : World} {x p : Nat} {S : SSt} {c : ScSt} (h : ScanAt w x p S c) (m : Nat) (hm : m < 18446744073709551616) : ScanAt (w.setCell ⟨x, 1, none⟩ (.int .u64 (m : Int))) x p S { c with left := m } :=
  ⟨h.hdr.set 1 _, h.sect.chg (D := (· = x)) (Chg.setCell _ _ rfl) (Ne.symm h.ne), ⟨hm, h.ok.place⟩, h.ne⟩
theorem ScanAt.setPlace {w : World} {x p : Nat} {S : SSt} {c : ScSt} (h : ScanAt w x p S c) (k : Nat) (hk : k < 64) : ScanAt (w.setCell ⟨x, 3, none⟩ (.int .i64 (k : Int))) x p S { c with place := k } :=
  ⟨h.hdr.set 3 _, h.sect.chg (D := (· = x)) (Chg.setCell _ _ rfl) (Ne.symm h.ne), ⟨h.ok.word, hk⟩, h.ne⟩

set_option maxHeartbeats 400000 in
theorem scNew_any {w : World} {p : Nat} {S : SSt} (h : SectAt w p S) : Calls Tryd.prog 67 #[.pointer (some ⟨p, 0, none⟩)] w fun e w' => e = .returned (.pointer (some ⟨w.heap.size, 0, none⟩)) ∧ ScanAt w' w.heap.size p S ⟨S.m, S.st, 0⟩ ∧ Keeps w w' := by
  have hi := in_any h
  have hs := stamp_any h
  have hlt := h.hdr.lt
  have hok := h.ok.word
  replace h := Lib.hid h
  go_enter Tryd.func67, Tryd.ntmps67
  go_wp2_with fail
  refine hi.mono ?_
  rintro e w' ⟨rfl, rfl⟩
  go_wp2_with fail
  refine hs.mono ?_
  rintro e w' ⟨rfl, rfl⟩
  go_wp2_with fail
  go_ret
  exact ⟨rfl, ⟨Blk.at rfl rfl, h.out.keeps (Keeps.alloc _ _), ⟨hok, Nat.zero_lt_succ 63⟩, by omega⟩, Keeps.alloc _ _⟩
set_option maxHeartbeats 400000 in
theorem scNew_nil (w : World) : Calls Tryd.prog 67 #[.pointer none] w fun e w' => e = .returned (.pointer (some ⟨w.heap.size, 0, none⟩)) ∧ Blk w' w.heap.size 131 [.pointer none, .int .u64 0, .int .i64 0, .int .i64 0] ∧ Keeps w w' := by
  go_enter Tryd.func67, Tryd.ntmps67
  go_wp2_with fail
  refine (in_nil w).mono ?_
  rintro e w' ⟨rfl, rfl⟩
  go_wp2_with fail
  refine (stamp_nil w).mono ?_
  rintro e w' ⟨rfl, rfl⟩
  go_wp2_with fail
  go_ret
  exact ⟨rfl, Blk.at rfl rfl, Keeps.alloc _ _⟩

set_option maxRecDepth 100000 in
set_option maxHeartbeats 1000000 in
theorem look_any {w : World} {x p : Nat} {S : SSt} {c : ScSt} (h : ScanAt w x p S c) (r : Int) :
    Calls Tryd.prog 78 #[.pointer (some ⟨x, 0, none⟩), .int .i64 r] w fun e w' => e = .returned (.bool (lookB S c r)) ∧ ScanAt w' x p S (look S c r) ∧ Chg (· = x) w w' := by
  have hhas : ∀ y : After w, Calls Tryd.prog 89 #[.int .u64 (c.left : Nat), .int .i64 r] y.now fun e w' => e = .returned (.bool (hasN c.left r)) ∧ ∃ z : After w, w' = z.now := fun y => After.same y (has_any c.left r y.now h.ok.word)
  have hsin : ∀ y : After w, Calls Tryd.prog 90 #[.pointer (some ⟨p, 0, none⟩), .int .i64 r] y.now fun e w' => e = .returned (.int .i64 (S.sinI r)) ∧ ∃ z : After w, w' = z.now := fun y => After.call y (since_any (h.sect.keeps y.keeps) r)
  have x0 := After.cell h.c0
  have x1 := After.cell h.c1
  have x2 := After.cell h.c2
  have hset := fun (W : World) (hk : Keeps w W) => (h.keeps hk).setLeft (withoutN c.left [r]) (withoutN_lt _ _ h.ok.word)
  have hwith := fun (W : World) => without_any c.left (.slice (some ⟨W.heap.size, 0, none⟩) 1 1) [r] (W.alloc (.cells #[.int .i64 r] 3)) h.ok.word (ints_at W 3 [r] _ rfl (by simp [maxLen]))
  have hcell : ∀ (W : World), Keeps w W → W.cell? ⟨x, 1, none⟩ = some (.int .u64 (c.left : Int)) ∧ W.frozen? ⟨x, 1, none⟩ = false ∧ x < W.heap.size := fun W hk => ⟨(h.keeps hk).c1, (h.keeps hk).hdr.frozen 1, (h.keeps hk).hdr.lt⟩
  have hh := h
  have hnoB : lookB S c r = false → look S c r = c := fun e => by unfold look; rw [if_neg (by rw [e]; decide)]
  have hyesB : lookB S c r = true → look S c r = { c with left := withoutN c.left [r] } := fun e => by unfold look; rw [if_pos e]
  have hB : lookB S c r = (hasN c.left r && !(decide (0 < S.sinI r) && decide (S.sinI r ≤ (c.began : Int)))) := rfl
  replace hh := Lib.hid hh
  replace hset := Lib.hid hset
  replace hwith := Lib.hid hwith
  replace hcell := Lib.hid hcell
  clear h
  have hcase : (hasN c.left r = false ∧ lookB S c r = false) ∨ (hasN c.left r = true ∧ ¬ 0 < S.sinI r ∧ lookB S c r = true) ∨ (hasN c.left r = true ∧ 0 < S.sinI r ∧ S.sinI r ≤ (c.began : Int) ∧ lookB S c r = false) ∨ (hasN c.left r = true ∧ 0 < S.sinI r ∧ ¬ S.sinI r ≤ (c.began : Int) ∧ lookB S c r = true) := by
    rw [hB]
    cases hasN c.left r with
    | false => exact .inl ⟨rfl, rfl⟩
    | true =>
      by_cases h1 : 0 < S.sinI r
      · by_cases h2 : S.sinI r ≤ (c.began : Int)
        · exact .inr (.inr (.inl ⟨rfl, h1, h2, by simp [h1, h2]⟩))
        · exact .inr (.inr (.inr ⟨rfl, h1, h2, by simp [h2]⟩))
      · exact .inr (.inl ⟨rfl, h1, by simp [h1]⟩)
  clear hB
  rcases hcase with ⟨h1, hb⟩ | ⟨h1, h2, hb⟩ | ⟨h1, h2, h3, hb⟩ | ⟨h1, h2, h3, hb⟩
  all_goals
    rw [h1] at hhas
    rw [hb]
    first
      | rw [hnoB hb]
      | rw [hyesB hb]
    generalize S.sinI r = s at *
    clear hnoB hyesB hb h1
    generalize withoutN c.left [r] = m2 at *
    try (have hd2 := decide_eq_false h2)
    try (have hd2 := decide_eq_true h2)
    try (have hd3 := decide_eq_false h3)
    try (have hd3 := decide_eq_true h3)
    replace hhas := Lib.hid hhas
    replace hsin := Lib.hid hsin
    go_enter Tryd.func78, Tryd.ntmps78
    go_wp2_with fail
    refine region_after (by kernel_rfl) (by kernel_rfl) ?_
    repeat go_big_quiet_step (first | (with_reducible exact hhas.out _) | (with_reducible exact hsin.out _))
    refine wpQuiet_nil ?_
    rintro W2 ⟨⟨_, hK2⟩, rfl⟩
    obtain ⟨k1, k2, k3⟩ := hcell.out W2 hK2
    replace hK2 := Lib.hid hK2
    clear hhas hsin x0 x1 x2
    first
      | (go_wp2_with fail
         go_ret
         exact ⟨rfl, hh.out.keeps hK2.out, Chg.of_keeps hK2.out⟩)
      | (go_wp2_with fail
         refine (hwith.out _).mono ?_
         rintro e w3 ⟨rfl, rfl⟩
         go_wp2_with fail
         go_ret
         exact ⟨rfl, (hset.out W2 hK2.out).keeps (Keeps.alloc _ _), Chg.trans (S := (· = x)) (Chg.trans (S := (· = x)) (Chg.of_keeps hK2.out) (Chg.setCell (S := (· = x)) _ _ rfl)) (Chg.of_keeps (Keeps.alloc _ _))⟩)
end Go.Proofs.YtefippjakkgjkaaDoor
