/- The walk of detentref09.In: who is inside, as a word. -/
import Derived.Test.YtefippjakkgjkaaDoorRef09
import Derived.Test.YtefippjakkgjkaaDoorSectD
namespace Go.Proofs.YtefippjakkgjkaaDoor
open Go.RowKit

/-- Who is inside, of sections up to a stamp (below 0: of all). -/
def inL (S : SSt) (stamp : Int) : List Nat := (List.range 64).filter fun j => decide (0 < S.sin j) && (decide (stamp < 0) || decide ((S.sin j : Int) ≤ stamp))
def inF (S : SSt) (stamp : Int) : Nat := withN 0 (castL (inL S stamp))
theorem mem_castL (l : List Nat) (k : Nat) : (k : Int) ∈ castL l ↔ k ∈ l := by
  simp only [castL, List.mem_map]
  constructor
  · rintro ⟨x, hx, h⟩; obtain rfl : x = k := by omega
    exact hx
  · intro h; exact ⟨k, h, rfl⟩
theorem inF_bit (S : SSt) (stamp : Int) (j : Nat) (hj : j < 64) : (inF S stamp).testBit j = (decide (0 < S.sin j) && (decide (stamp < 0) || decide ((S.sin j : Int) ≤ stamp))) := by
  unfold inF
  rw [testBit_withN j hj, Nat.zero_testBit, Bool.false_or, Bool.eq_iff_iff, decide_eq_true_eq, mem_castL]
  simp only [inL, List.mem_filter, List.mem_range, hj, true_and]
theorem inF_lt (S : SSt) (stamp : Int) : inF S stamp < 18446744073709551616 := withN_lt _ _ (by decide)
theorem inF_all {S : SSt} (h : S.Ok) : inF S (-1) = S.m := by
  refine eq_of_bits _ _ (inF_lt _ _) h.word fun j hj => ?_
  rw [inF_bit _ _ j hj]
  have hb := h.bits j hj
  simp only [hasN, Int.toNat_natCast] at hb
  rw [decide_eq_true (show (0 : Int) ≤ (j : Int) ∧ (j : Int) < 64 by omega), Bool.true_and] at hb
  rw [hb]
  rw [show decide ((-1 : Int) < 0) = true from rfl, Bool.true_or, Bool.and_true, decide_eq_decide]
  exact ⟨fun h1 => by have := h.zero j; omega, h.pos j⟩
theorem inF_open {S : SSt} (h : S.Ok) (stamp : Int) (hs : 0 ≤ stamp) : inF S stamp = openN S stamp := by
  refine eq_of_bits _ _ (inF_lt _ _) (withN_lt _ _ (by decide)) fun j hj => ?_
  rw [inF_bit _ _ j hj]
  unfold openN
  rw [testBit_withN j hj, Nat.zero_testBit, Bool.false_or, decide_eq_false (show ¬ stamp < 0 by omega), Bool.false_or, Bool.eq_iff_iff, decide_eq_true_eq]
  have := mem_castL (openTo S stamp (listN S.m).length) j
  unfold castL at this
  rw [this]
  unfold openTo
  rw [List.take_length, List.mem_filter, mem_listN, Bool.and_eq_true, decide_eq_true_eq]
  have hb := h.bits j hj
  simp only [hasN, Int.toNat_natCast] at hb
  rw [decide_eq_true (show (0 : Int) ≤ (j : Int) ∧ (j : Int) < 64 by omega), Bool.true_and] at hb
  rw [hb]
  simp only [decide_eq_true_eq]
  refine and_congr_left fun _ => ?_
  exact ⟨fun h1 => ⟨hj, by have := h.zero j; omega⟩, fun h1 => h.pos j h1.2⟩
theorem openN_neg (S : SSt) (stamp : Int) (hs : stamp < 0) : openN S stamp = 0 := by
  unfold openN openTo
  rw [List.take_length]
  have : (listN S.m).filter (fun r => decide ((S.sin r : Int) ≤ stamp)) = [] := by
    rw [List.filter_eq_nil_iff]
    intro a _
    simp; omega
  rw [this]; rfl
theorem half_step (F r : Nat) : F / 2 ^ r = 2 * (F / 2 ^ (r + 1)) + (F.testBit r).toNat := by
  have h1 : F / 2 ^ (r + 1) = F / 2 ^ r / 2 := by rw [Nat.pow_succ, Nat.div_div_eq_div_mul]
  have h2 : (F.testBit r).toNat = F / 2 ^ r % 2 := by
    rw [Nat.testBit_eq_decide_div_mod_eq]
    have : F / 2 ^ r % 2 < 2 := Nat.mod_lt _ (by decide)
    by_cases e : F / 2 ^ r % 2 = 1
    · simp [e]
    · have : F / 2 ^ r % 2 = 0 := by omega
      simp [this]
  rw [h1, h2]; omega

set_option maxRecDepth 100000 in
set_option maxHeartbeats 1000000 in
theorem rIn_any (v : Value) (l : List (Int × Bool)) (stamp : Int) (w : World) (hv : Deeds w v l) (hg : Good l) (hl : l.length ≤ 100000) :
    Calls Tryd.prog 33 #[v, .int .i64 stamp] w fun e w' => e = .returned (.int .u64 (inF (runD l) stamp : Nat)) ∧ Keeps w w' := by
  have hst := fun (r : Int) (W : World) (hK : Keeps w W) => rStamps_any v l r W (hv.keeps hK) hg hl
  have hFl := inF_lt (runD l) stamp
  have hbit : ∀ j : Nat, j < 64 → (inF (runD l) stamp).testBit j = (decide (0 < (runD l).sin j) && (decide (stamp < 0) || decide (((runD l).sin j : Int) ≤ stamp))) := fun j hj => inF_bit _ _ j hj
  have hsin : ∀ j : Nat, j < 64 → (runD l).sinI j = ((runD l).sin j : Nat) := fun j hj => by unfold SSt.sinI; rw [if_pos (by omega), Int.toNat_natCast]
  have hhalf := half_step (inF (runD l) stamp)
  have h64 : inF (runD l) stamp / 2 ^ 64 = 0 := Nat.div_eq_of_lt hFl
  obtain ⟨p, cap, rfl, _⟩ := hv.get
  generalize inF (runD l) stamp = F at *
  generalize (runD l).st = st at *
  have hdle : ∀ j, F / 2 ^ j ≤ F := fun j => Nat.div_le_self _ _
  replace hst := Lib.hid hst
  replace hbit := Lib.hid hbit
  replace hsin := Lib.hid hsin
  replace hhalf := Lib.hid hhalf
  replace h64 := Lib.hid h64
  replace hdle := Lib.hid hdle
  replace hFl := Lib.hid hFl
  clear hv hg hl
  go_enter Tryd.func33, Tryd.ntmps33
  go_wp2_with fail
  go_loopw [5, 6] (fun n i wr => ∃ k : Nat, k ≤ 64 ∧ i = .int .i64 ((k : Int) - 1) ∧ n = .int .u64 (F / 2 ^ k : Nat) ∧ Keeps w wr) (fun _ i _ => (intOf i + 1).toNat)
  case atStart => exact ⟨64, by omega, rfl, by rw [h64.out]; rfl, Keeps.refl _⟩
  case round =>
    obtain ⟨k, hk, rfl, rfl, hK⟩ := hrel
    by_cases h0 : k = 0
    · subst h0
      replace hK := Lib.hid hK
      have hn : ¬ (0 : Int) ≤ ((0 : Nat) : Int) - 1 := by omega
      go_wp2_with fail
      go_ret
      exact ⟨rfl, hK.out⟩
    · obtain ⟨j, rfl⟩ : ∃ j, k = j + 1 := ⟨k - 1, by omega⟩
      have ej : (((j + 1 : Nat) : Int) - 1) = (j : Int) := by omega
      rw [ej]
      have hs := hst.out (j : Int) wr hK
      rw [hsin.out j (by omega)] at hs
      have hb := hbit.out j (by omega)
      have hh := hhalf.out j
      have hd1 := hdle.out j
      have hF := hFl.out
      rw [hb] at hh
      generalize (runD l).sin j = s at *
      generalize hnx : F / 2 ^ j = nx at *
      generalize F / 2 ^ (j + 1) = n at *
      have hj0 : (0 : Int) ≤ (j : Int) := by omega
      have hcase : (s = 0 ∧ nx = 2 * n) ∨ (0 < s ∧ stamp < 0 ∧ nx = 2 * n + 1) ∨ (0 < s ∧ ¬ stamp < 0 ∧ (s : Int) ≤ stamp ∧ nx = 2 * n + 1) ∨ (0 < s ∧ ¬ stamp < 0 ∧ ¬ (s : Int) ≤ stamp ∧ nx = 2 * n) := by
        by_cases h1 : s = 0
        · subst h1; simp at hh; exact .inl ⟨rfl, hh⟩
        · rw [decide_eq_true (show 0 < s by omega), Bool.true_and] at hh
          by_cases h2 : stamp < 0
          · rw [decide_eq_true h2, Bool.true_or] at hh; exact .inr (.inl ⟨by omega, h2, hh⟩)
          · rw [decide_eq_false h2, Bool.false_or] at hh
            by_cases h3 : (s : Int) ≤ stamp
            · rw [decide_eq_true h3] at hh; exact .inr (.inr (.inl ⟨by omega, h2, h3, hh⟩))
            · rw [decide_eq_false h3] at hh; exact .inr (.inr (.inr ⟨by omega, h2, h3, hh⟩))
      have hnl : 2 * (n : Int) + 1 < 18446744073709551616 ∨ 2 * (n : Int) < 18446744073709551616 := by omega
      clear hb hh hnl h0 ej
      replace hs := Lib.hid hs
      replace hK := Lib.hid hK
      replace hnx := Lib.hid hnx
      have hw0 : IntKind.u64.wrap ((n : Int) * 2) = (n : Int) * 2 := by rw [IntKind.wrap_u64]; omega
      rcases hcase with ⟨rfl, hn⟩ | ⟨h1, h2, hn⟩ | ⟨h1, h2, h3, hn⟩ | ⟨h1, h2, h3, hn⟩
      · replace hn := Lib.hid hn
        clear hd1 hF
        go_wp2_with fail
        refine hs.out.mono ?_
        rintro e w2 ⟨rfl, hK2⟩
        replace hK2 := Lib.hid hK2
        go_wp2_with fail
        go_roundw
        case rel => exact ⟨j, by omega, rfl, by rw [hnx.out, hn.out]; congr 1; omega, Keeps.trans hK.out hK2.out⟩
        case measure => (simp [intOf]; try omega)
      · have hw1 : IntKind.u64.wrap ((n : Int) * 2 + 1) = (n : Int) * 2 + 1 := by rw [IntKind.wrap_u64]; omega
        replace hn := Lib.hid hn
        have h1' : (0 : Int) < (s : Int) := by omega
        clear hd1 hF
        go_wp2_with fail
        refine hs.out.mono ?_
        rintro e w2 ⟨rfl, hK2⟩
        replace hK2 := Lib.hid hK2
        go_wp2_with fail
        go_roundw
        case rel => exact ⟨j, by omega, rfl, by rw [hnx.out, hn.out]; congr 1; omega, Keeps.trans hK.out hK2.out⟩
        case measure => (simp [intOf]; try omega)
      · have hw1 : IntKind.u64.wrap ((n : Int) * 2 + 1) = (n : Int) * 2 + 1 := by rw [IntKind.wrap_u64]; omega
        replace hn := Lib.hid hn
        have h1' : (0 : Int) < (s : Int) := by omega
        clear hd1 hF
        go_wp2_with fail
        refine hs.out.mono ?_
        rintro e w2 ⟨rfl, hK2⟩
        replace hK2 := Lib.hid hK2
        go_wp2_with fail
        go_roundw
        case rel => exact ⟨j, by omega, rfl, by rw [hnx.out, hn.out]; congr 1; omega, Keeps.trans hK.out hK2.out⟩
        case measure => (simp [intOf]; try omega)
      · replace hn := Lib.hid hn
        have h1' : (0 : Int) < (s : Int) := by omega
        clear hd1 hF
        go_wp2_with fail
        refine hs.out.mono ?_
        rintro e w2 ⟨rfl, hK2⟩
        replace hK2 := Lib.hid hK2
        go_wp2_with fail
        go_roundw
        case rel => exact ⟨j, by omega, rfl, by rw [hnx.out, hn.out]; congr 1; omega, Keeps.trans hK.out hK2.out⟩
        case measure => (simp [intOf]; try omega)
end Go.Proofs.YtefippjakkgjkaaDoor
