/- The waits of a law: all in new memory; the chapter's example. -/
import Derived.Test.YtacdmiafppmabaaDoorRef24c
import Derived.Test.YtacdmiafppmabaaDoorSame
namespace Go.Proofs.YtacdmiafppmabaaDoor
open Go.RowKit

def inC (a : Int) : Bool := decide (0 ≤ a ∧ a < 32)
/-- What Wait answers. -/
def waitC (f : WS) (a b : Int) : Int := if (inC a && inC b) = false then 2 else if whomB f a = true then 5 else if a = b ∨ a.toNat ∈ chainW f b.toNat then 19 else 0
def waitF (f : WS) (a b : Int) : WS := if waitC f a b = 0 then updW f a.toNat (some b.toNat) else f
theorem waitF_no {f : WS} {a b : Int} (h : waitC f a b ≠ 0) : waitF f a b = f := by unfold waitF; rw [if_neg h]
/-- The waits of a law that began in w. -/
structure WI (w : World) (p : Nat) (bo : Option Nat) (n : Nat) (f : WS) (W : World) : Prop where
  at' : WaitsAt W p bo n f
  new : ∀ k, WF p bo k → w.heap.size ≤ k
  keeps : Keeps w W
section
variable {w W W' : World} {p n : Nat} {bo : Option Nat} {f : WS}
theorem WI.kept (h : WI w p bo n f W) (hk : Keeps W W') : WI w p bo n f W' := ⟨h.at'.keeps hk, h.new, Keeps.trans h.keeps hk⟩
theorem WI.mono {m : Nat} (h : WI w p bo n f W) (hm : n ≤ m) : WI w p bo m f W := by
  refine ⟨⟨h.at'.hdr, ?_, h.at'.ok⟩, h.new, h.keeps⟩
  have := h.at'.map
  cases bo with
  | none => exact this
  | some b => exact ⟨this.1, this.2.mono hm⟩
theorem WI.chg {bo' : Option Nat} {n' : Nat} {f' : WS} (h : WI w p bo n f W) (ha : WaitsAt W' p bo' n' f') (hc : Chg (WF p bo) W W') (hn : ∀ k, WF p bo' k → WF p bo k ∨ W.heap.size ≤ k) : WI w p bo' n' f' W' :=
  ⟨ha, fun k hk => by rcases hn k hk with h1 | h1; exact h.new k h1; exact Nat.le_trans h.keeps.size h1, Chg.keeps hc h.keeps (fun k hk hs => by have := h.new k hs; omega)⟩
theorem WI.start (w : World) : WI w w.heap.size none 0 wnone (w.alloc (.cells #[.map none] 25)) :=
  ⟨WaitsAt.start w, fun k hk => (by rcases hk with rfl | hk; exact Nat.le_refl _; cases hk), Keeps.alloc _ _⟩
theorem WI.ok (h : WI w p bo n f W) : WOk f := h.at'.ok
theorem WI.wait2 (h : WI w p bo n f W) (a b : Int) (hn : n < maxLen) : Calls Tryd.prog 10 #[.pointer (some ⟨p, 0, none⟩), .int .i64 a, .int .i64 b] W fun e W' => e = .returned (.int .i64 (waitC f a b)) ∧ ∃ bo', WI w p bo' (n + 1) (waitF f a b) W' ∧ Chg (WF p bo) W W' ∧ ∀ k, WF p bo' k → WF p bo k ∨ W.heap.size ≤ k := by
  have stay : ∀ {c : Int} {W' : World}, c ≠ 0 → waitC f a b = c → Keeps W W' → ∃ bo', WI w p bo' (n + 1) (waitF f a b) W' ∧ Chg (WF p bo) W W' ∧ ∀ k, WF p bo' k → WF p bo k ∨ W.heap.size ≤ k := fun hc he hk => ⟨bo, by rw [waitF_no (by rw [he]; exact hc)]; exact (h.kept hk).mono (Nat.le_succ n), Chg.of_keeps hk, fun k hk => .inl hk⟩
  by_cases hr : (inC a && inC b) = false
  · have hw : waitC f a b = 2 := by unfold waitC; rw [if_pos hr]
    refine (wait_range a b ?_).mono ?_
    · rw [Bool.and_eq_false_iff] at hr
      exact hr.imp (fun h => of_decide_eq_false h) (fun h => of_decide_eq_false h)
    · rintro e W' ⟨rfl, rfl⟩
      exact ⟨by rw [hw], stay (by decide) hw (Keeps.refl _)⟩
  · have hr2 : inC a = true ∧ inC b = true := by simpa using hr
    have ha := of_decide_eq_true hr2.1
    have hb := of_decide_eq_true hr2.2
    obtain ⟨x, rfl⟩ : ∃ x : Nat, a = x := ⟨a.toNat, by omega⟩
    obtain ⟨y, rfl⟩ : ∃ y : Nat, b = y := ⟨b.toNat, by omega⟩
    cases hf : f x with
    | some c =>
      have hw : waitC f x y = 5 := by unfold waitC; rw [if_neg hr, if_pos (whom_some hf).2]
      refine (wait_twice h.at' x y c (by omega) (by omega) hf).mono ?_
      rintro e W' ⟨rfl, rfl⟩
      exact ⟨by rw [hw], stay (by decide) hw (Keeps.refl _)⟩
    | none =>
      by_cases hd : x = y ∨ x ∈ chainW f y
      · have hw : waitC f x y = 19 := by
          unfold waitC
          rw [if_neg hr, if_neg (by rw [(whom_none hf).2]; exact Bool.false_ne_true), if_pos (by rw [Int.toNat_natCast, Int.toNat_natCast]; exact hd.imp (fun e => by rw [e]) id)]
        refine (wait_dead h.at' x y (by omega) (by omega) hf hd).mono ?_
        rintro e W' ⟨rfl, hk⟩
        exact ⟨by rw [hw], stay (by decide) hw hk⟩
      · have hw : waitC f x y = 0 := by
          unfold waitC
          rw [if_neg hr, if_neg (by rw [(whom_none hf).2]; exact Bool.false_ne_true), if_neg (by rw [Int.toNat_natCast, Int.toNat_natCast]; exact fun h => hd (h.imp (fun e => by omega) id))]
        refine (wait_ok h.at' x y (by omega) (by omega) hf (fun e => hd (.inl e)) (fun e => hd (.inr e)) hn).mono ?_
        rintro e W' ⟨rfl, bo', ha', hc, hs⟩
        refine ⟨by rw [hw], bo', ?_, hc, hs⟩
        unfold waitF
        rw [if_pos hw, Int.toNat_natCast, Int.toNat_natCast]
        exact h.chg ha' hc hs
theorem WI.wait (h : WI w p bo n f W) (a b : Int) (hn : n < maxLen) : Calls Tryd.prog 10 #[.pointer (some ⟨p, 0, none⟩), .int .i64 a, .int .i64 b] W fun e W' => e = .returned (.int .i64 (waitC f a b)) ∧ ∃ bo', WI w p bo' (n + 1) (waitF f a b) W' := by
  refine (h.wait2 a b hn).mono ?_
  rintro e W' ⟨he, bo', hI, _⟩
  exact ⟨he, bo', hI⟩
theorem rWait_any (hok : WOk f) (a b : Int) (W : World) : Calls Tryd.prog 13 #[.agg (wc f).toArray, .int .i64 a, .int .i64 b] W fun e W' => e = .returned (.tuple #[.agg (wc (waitF f a b)).toArray, .int .i64 (waitC f a b)]) ∧ Keeps W W' := by
  by_cases hr : (inC a && inC b) = false
  · have hw : waitC f a b = 2 := by unfold waitC; rw [if_pos hr]
    refine (rWait_range f a b W ?_).mono ?_
    · rw [Bool.and_eq_false_iff] at hr
      exact hr.imp (fun h => of_decide_eq_false h) (fun h => of_decide_eq_false h)
    · rintro e W' ⟨rfl, hk⟩
      exact ⟨by rw [hw, waitF_no (by rw [hw]; decide)], hk⟩
  · have hr2 : inC a = true ∧ inC b = true := by simpa using hr
    have ha := of_decide_eq_true hr2.1
    have hb := of_decide_eq_true hr2.2
    obtain ⟨x, rfl⟩ : ∃ x : Nat, a = x := ⟨a.toNat, by omega⟩
    obtain ⟨y, rfl⟩ : ∃ y : Nat, b = y := ⟨b.toNat, by omega⟩
    cases hf : f x with
    | some c =>
      have hw : waitC f x y = 5 := by unfold waitC; rw [if_neg hr, if_pos (whom_some hf).2]
      refine (rWait_twice f x y c W (by omega) (by omega) hf).mono ?_
      rintro e W' ⟨rfl, hk⟩
      exact ⟨by rw [hw, waitF_no (by rw [hw]; decide)], hk⟩
    | none =>
      refine (rWait_free hok x y W (by omega) (by omega) hf).mono ?_
      rintro e W' ⟨rfl, hk⟩
      refine ⟨?_, hk⟩
      by_cases hd : x = y ∨ x ∈ chainW f y
      · have hw : waitC f x y = 19 := by
          unfold waitC
          rw [if_neg hr, if_neg (by rw [(whom_none hf).2]; exact Bool.false_ne_true), if_pos (by rw [Int.toNat_natCast, Int.toNat_natCast]; exact hd.imp (fun e => by rw [e]) id)]
        rw [if_pos hd, hw, waitF_no (by rw [hw]; decide)]
      · have hw : waitC f x y = 0 := by
          unfold waitC
          rw [if_neg hr, if_neg (by rw [(whom_none hf).2]; exact Bool.false_ne_true), if_neg (by rw [Int.toNat_natCast, Int.toNat_natCast]; exact fun h => hd (h.imp (fun e => by omega) id))]
        rw [if_neg hd, hw]
        unfold waitF
        rw [if_pos hw, Int.toNat_natCast, Int.toNat_natCast]
theorem WI.wake (h : WI w p bo n f W) (hT : TabAt w) (v : Value) (zs : List Int) (hv : Ints W v zs) :
    Calls Tryd.prog 7 #[.pointer (some ⟨p, 0, none⟩), v] W fun e W' => ∃ u, e = .returned u ∧ Ints W' u (castW (suchL f (fun c => zs.contains (c : Int)) 32)) ∧ (∀ b, u.ownBlock = some b → W.heap.size ≤ b) ∧ WI w p bo n (dropAll f (suchL f (fun c => zs.contains (c : Int)) 32)) W' ∧ Chg (WF p bo) W W' := by
  refine (wake_any h.at' v zs hv (hT.keeps h.keeps) (fun hF => ?_)).mono ?_
  · have := h.new _ hF
    have := cell_lt (hT 0 (by decide))
    simp only at this
    omega
  · rintro e W' ⟨u, rfl, hu, hlo, ha, hc⟩
    exact ⟨u, rfl, hu, hlo, h.chg ha hc (fun k hk => .inl hk), hc⟩
/-- Chain, as a row of numbers in new memory. -/
theorem WI.chain (h : WI w p bo n f W) (a : Int) (ha : -9223372036854775808 ≤ a ∧ a ≤ 9223372036854775807) :
    Calls Tryd.prog 8 #[.pointer (some ⟨p, 0, none⟩), .int .i64 a] W fun e W' => ∃ v, e = .returned v ∧ Ints W' v (castW (chainI f a)) ∧ (∀ b, v.ownBlock = some b → W.heap.size ≤ b) ∧ Keeps W W' := by
  refine (chain_any h.at' a ha).mono ?_
  rintro e W' ⟨v, rfl, hr, hk⟩
  exact ⟨v, rfl, by have := slc_of_row hr; rw [natInts_ints] at this; exact this, row_ownB hr, hk⟩
end
/-! ### The example -/
def kf1 : WS := updW wnone 1 (some 2)
def kf2 : WS := updW kf1 2 (some 3)
theorem kc1 : waitC wnone 1 2 = 0 := by decide
theorem kF1 : waitF wnone 1 2 = kf1 := by unfold waitF; rw [if_pos kc1]; rfl
theorem kc2 : waitC kf1 2 3 = 0 := by decide
theorem kF2 : waitF kf1 2 3 = kf2 := by unfold waitF; rw [if_pos kc2]; rfl
theorem kc3 : waitC kf2 3 1 = 19 := by decide
theorem kF3 : waitF kf2 3 1 = kf2 := waitF_no (by rw [kc3]; decide)
theorem kc4 : waitC kf2 3 3 = 19 := by decide
theorem kF4 : waitF kf2 3 3 = kf2 := waitF_no (by rw [kc4]; decide)
theorem kch : castW (chainI kf2 1) = [2, 3] := by decide
theorem ksu : castW (suchL kf2 (fun c => [(3 : Int)].contains (c : Int)) 32) = [2] := by decide
theorem kdr : castW (chainI (dropAll kf2 (suchL kf2 (fun c => [(3 : Int)].contains (c : Int)) 32)) 1) = [2] := by decide
theorem ints_two (W : World) (x y : Int) : Ints (W.alloc (.cells #[.int .i64 x, .int .i64 y] 3)) (.slice (some ⟨W.heap.size, 0, none⟩) 2 2) [x, y] := by
  have := (Blk.new W 3 [.int .i64 x, .int .i64 y]).slc 2 2 (by simp) (by omega) (by unfold maxLen; omega)
  exact this
set_option maxRecDepth 100000 in
set_option maxHeartbeats 2000000 in
theorem known24_any (w : World) (hT : TabAt w) : Calls Tryd.prog 11 #[] w fun e w' => e = .returned (.bool true) ∧ Keeps w w' := by
  obtain ⟨P, hP⟩ : ∃ P, P = w.heap.size := ⟨_, rfl⟩
  have hI := WI.start w
  rw [← hP] at hI
  replace hI := Lib.hid hI
  replace hP := Lib.hid hP
  go_enter Tryd.func11, Tryd.ntmps11
  go_upto_region 2 with (fail)
  rw [← hP.out]
  refine wp_gen (fun W => WI w P none 0 wnone W) hI.out ?_
  clear hI
  rintro W hI
  have h1 := hI.wait 1 2 (by decide)
  rw [kc1, kF1] at h1
  replace h1 := Lib.hid h1
  clear hI
  go_wp2_with fail
  refine h1.out.mono ?_
  rintro e W1 ⟨rfl, bo1, hI⟩
  have h1 := hI.wait 2 3 (by decide)
  rw [kc2, kF2] at h1
  replace h1 := Lib.hid h1
  clear hI
  go_wp2_with fail
  refine h1.out.mono ?_
  rintro e W2 ⟨rfl, bo2, hI⟩
  have h1 := hI.chain 1 (by decide)
  rw [kch] at h1
  replace h1 := Lib.hid h1
  replace hI := Lib.hid hI
  go_wp2_with fail
  refine h1.out.mono ?_
  rintro e W3 ⟨v, rfl, hv, hlo, hk⟩
  have hk3 := Keeps.alloc W3 (.cells #[.int .i64 2, .int .i64 3] 3)
  have hI := hI.out.kept (Keeps.trans hk hk3)
  have h1 := same_any [2, 3] [2, 3] v _ _ (Slc.below hv hk3) (ints_two W3 2 3)
  rw [sameL_self] at h1
  obtain ⟨vq, vc, rfl, _⟩ := hv.open
  replace h1 := Lib.hid h1
  replace hI := Lib.hid hI
  clear hv hlo hk hk3
  go_wp2_with fail
  refine h1.out.mono ?_
  rintro e W4 ⟨rfl, hk⟩
  have hI := hI.out.kept hk
  have h1 := hI.wait 3 1 (by decide)
  rw [kc3, kF3] at h1
  replace h1 := Lib.hid h1
  clear hI hk
  go_wp2_with fail
  refine h1.out.mono ?_
  rintro e W5 ⟨rfl, bo5, hI⟩
  have h1 := hI.wait 3 3 (by decide)
  rw [kc4, kF4] at h1
  replace h1 := Lib.hid h1
  clear hI
  go_wp2_with fail
  refine h1.out.mono ?_
  rintro e W6 ⟨rfl, bo6, hI⟩
  have h1 := (hI.kept (Keeps.alloc W6 (.cells #[.int .i64 3] 3))).wake hT _ _ (ints_one W6 3)
  rw [ksu] at h1
  replace h1 := Lib.hid h1
  clear hI
  go_wp2_with fail
  refine h1.out.mono ?_
  rintro e W7 ⟨v, rfl, hv, hlo, hI, _⟩
  have hk3 := Keeps.alloc W7 (.cells #[.int .i64 2] 3)
  have hI := hI.kept hk3
  have h1 := same_any [2] [2] v _ _ (Slc.below hv hk3) (ints_one W7 2)
  rw [sameL_self] at h1
  obtain ⟨vq, vc, rfl, _⟩ := hv.open
  replace h1 := Lib.hid h1
  replace hI := Lib.hid hI
  clear hv hlo hk3
  go_wp2_with fail
  refine h1.out.mono ?_
  rintro e W8 ⟨rfl, hk⟩
  have hI := hI.out.kept hk
  have h1 := hI.chain 1 (by decide)
  rw [kdr] at h1
  replace h1 := Lib.hid h1
  replace hI := Lib.hid hI
  clear hk
  go_wp2_with fail
  refine h1.out.mono ?_
  rintro e W9 ⟨v, rfl, hv, hlo, hk⟩
  have hk3 := Keeps.alloc W9 (.cells #[.int .i64 2] 3)
  have hI := hI.out.kept (Keeps.trans hk hk3)
  have h1 := same_any [2] [2] v _ _ (Slc.below hv hk3) (ints_one W9 2)
  rw [sameL_self] at h1
  obtain ⟨vq, vc, rfl, _⟩ := hv.open
  replace h1 := Lib.hid h1
  replace hI := Lib.hid hI
  clear hv hlo hk hk3
  go_wp2_with fail
  refine h1.out.mono ?_
  rintro e W10 ⟨rfl, hk⟩
  have hI := Lib.hid (hI.out.kept hk)
  clear hk
  go_wp2_with fail
  go_ret
  exact ⟨rfl, hI.out.keeps⟩
end Go.Proofs.YtacdmiafppmabaaDoor
