/- The laws of layer 11: what each walk comes to. -/
import Derived.Test.YtllnncojafcdoaaCallsF
import Derived.Test.YtllnncojafcdoaaSame
import Derived.Test.YtllnncojafcdoaaModn
namespace Go.Proofs.Ytllnncojafcdoaa
open Go.RowKit RgC

/-- What holds while a law goes: the lists, whose blocks are the law's own. -/
structure LI (w : World) (p rb cap n : Nat) (pp bb : Nat → Nat) (last : Int) (R : List (List Cl)) (W : World) : Prop where
  at' : ListsAt W p rb cap n pp bb last R
  new : ∀ k, Foot p rb n pp bb k → w.heap.size ≤ k
  keeps : Keeps w W
section
variable {w W W' : World} {p rb cap n : Nat} {pp bb : Nat → Nat} {last last' : Int} {R R' : List (List Cl)}
theorem LI.kept (h : LI w p rb cap n pp bb last R W) (hk : Keeps W W') : LI w p rb cap n pp bb last R W' := ⟨h.at'.keeps hk, h.new, Keeps.trans h.keeps hk⟩
theorem LI.chg (h : LI w p rb cap n pp bb last R W) (ha : ListsAt W' p rb cap n pp bb last' R') (hc : Chg (Foot p rb n pp bb) W W') : LI w p rb cap n pp bb last' R' W' := ⟨ha, h.new, Chg.keeps hc h.keeps (fun k hk hs => by have := h.new k hs; omega)⟩
theorem LI.all (h : LI w p rb cap n pp bb last R W) : AllAt W (.pointer (some ⟨p, 0, none⟩)) R.flatten := .inr ⟨p, rb, cap, n, pp, bb, last, R, rfl, rfl, h.at'⟩
theorem LI.add (h : LI w p rb cap n pp bb last R W) (c : Nat) (hc : c < n) (v : Value) (ids : List Int) (hv : Ints W v ids) (hsep : ∀ k, v.ownBlock = some k → 0 < ids.length → ¬ Foot p rb n pp bb k) :
    Calls Try.prog 8 #[.pointer (some ⟨p, 0, none⟩), .int .i64 c, v] W fun e W' => e = .returned (.int .i64 (if ids.length ≤ 64 - (R.getD c []).length then 0 else 3)) ∧ LI w p rb cap n pp bb last (R.set c (addR (R.getD c []) ids)) W' := by
  refine (ladd_any h.at' c hc v ids hv hsep).mono ?_
  rintro e W' ⟨he, ha, hC⟩
  exact ⟨he, h.chg ha hC⟩
theorem LI.add1 (h : LI w p rb cap n pp bb last R W) (c : Nat) (hc : c < n) (id : Int) (sb : Nat) (hsb : sb = W.heap.size) :
    Calls Try.prog 8 #[.pointer (some ⟨p, 0, none⟩), .int .i64 c, .slice (some ⟨sb, 0, none⟩) 1 1] (W.alloc (.cells #[.int .i64 id] 3)) fun e W' => e = .returned (.int .i64 (if 1 ≤ 64 - (R.getD c []).length then 0 else 3)) ∧ LI w p rb cap n pp bb last (R.set c (addR (R.getD c []) [id])) W' := by
  subst hsb
  refine (h.kept (Keeps.alloc _ _)).add c hc _ [id] (ints_new W 3 [id] (by simp [maxLen])) (fun k hk _ hf => ?_)
  have := h.at'.foot_lt k hf
  simp [Value.ownBlock] at hk
  omega
theorem LI.addNo (h : LI w p rb cap n pp bb last R W) (c : Int) (hc : c < 0 ∨ (n : Int) ≤ c) (v : Value) (W0 : World) (hk : Keeps W W0) : Calls Try.prog 8 #[.pointer (some ⟨p, 0, none⟩), .int .i64 c, v] W0 fun e W' => e = .returned (.int .i64 2) ∧ W0 = W' := ladd_no (h.kept hk).at' c hc v
theorem LI.close (h : LI w p rb cap n pp bb last R W) (g : Int) (h1 : 1 ≤ g) (h2 : last ≤ g) : Calls Try.prog 9 #[.pointer (some ⟨p, 0, none⟩), .int .i64 g] W fun e W' => e = .returned (.int .i64 (openC R.flatten : Nat)) ∧ LI w p rb cap n pp bb g (closeL g R) W' := by
  refine (lclose_any h.at' g h1 h2).mono ?_
  rintro e W' ⟨he, ha, hC⟩
  exact ⟨he, h.chg ha hC⟩
theorem LI.done (h : LI w p rb cap n pp bb last R W) (g : Int) :
    Calls Try.prog 10 #[.pointer (some ⟨p, 0, none⟩), .int .i64 g] W fun e W' => ∃ v, e = .returned v ∧ W'.ownsRow W.heap.size 3 1 v (tellL g R).length ((tellL g R).map (Value.int .i64)) ∧ LI w p rb cap n pp bb last (R.map (lfL g)) W' := by
  refine (ldone_any h.at' g).mono ?_
  rintro e W' ⟨v, he, hr, ha, hC⟩
  exact ⟨v, he, hr, h.chg ha hC⟩
theorem LI.start {n : Nat} (h1 : 1 ≤ n) (h2 : n ≤ 64) (w : World) : Calls Try.prog 7 #[.int .i64 n] w fun e w' => ∃ p rb cap pp bb, e = .returned (.tuple #[.pointer (some ⟨p, 0, none⟩), .int .i64 0]) ∧ LI w p rb cap n pp bb 0 (List.replicate n []) w' := by
  refine (lnew_yes n w h1 h2).mono ?_
  rintro e w' ⟨p, rb, cap, pp, bb, he, hL, hF, hK⟩
  exact ⟨p, rb, cap, pp, bb, he, hL, hF, hK⟩
end
set_option maxRecDepth 100000 in
set_option maxHeartbeats 2000000 in
theorem known11_any (w : World) : Calls Try.prog 11 #[] w fun e w' => e = .returned (.bool true) ∧ Keeps w w' := by
  have hst := LI.start (n := 2) (by decide) (by decide) w
  rw [show ((2 : Nat) : Int) = 2 from rfl] at hst
  replace hst := Lib.hid hst
  go_enter Try.func11, Try.ntmps11
  go_wp2_with fail
  refine hst.out.mono ?_
  rintro e w1 ⟨p, rb, cap, pp, bb, rfl, hL⟩
  have ha := hL.add1 1 (by decide) 7 w1.heap.size rfl
  rw [show ((List.replicate 2 ([] : List Cl)).set 1 (addR ((List.replicate 2 ([] : List Cl)).getD 1 []) [7])) = [[], [(7, 0)]] from rfl, show ((1 : Nat) : Int) = 1 from rfl, show (if 1 ≤ 64 - ((List.replicate 2 ([] : List Cl)).getD 1 []).length then (0 : Int) else 3) = 0 from rfl] at ha
  replace ha := Lib.hid ha
  clear hL hst
  go_wp2_with fail
  refine ha.out.mono ?_
  rintro e w2 ⟨rfl, hL⟩
  have hc := hL.close 3 (by decide) (by decide)
  rw [show openC (([[], [(7, 0)]] : List (List Cl)).flatten) = 1 from rfl, show closeL 3 ([[], [(7, 0)]] : List (List Cl)) = [[], [(7, 3)]] from rfl, show ((1 : Nat) : Int) = 1 from rfl] at hc
  replace hc := Lib.hid hc
  clear hL ha
  go_wp2_with fail
  refine hc.out.mono ?_
  rintro e w3 ⟨rfl, hL⟩
  have ha := hL.add1 0 (by decide) 8 w3.heap.size rfl
  rw [show (([[], [(7, 3)]] : List (List Cl)).set 0 (addR (([[], [(7, 3)]] : List (List Cl)).getD 0 []) [8])) = [[(8, 0)], [(7, 3)]] from rfl, show ((0 : Nat) : Int) = 0 from rfl, show (if 1 ≤ 64 - (([[], [(7, 3)]] : List (List Cl)).getD 0 []).length then (0 : Int) else 3) = 0 from rfl] at ha
  replace ha := Lib.hid ha
  clear hL hc
  go_wp2_with fail
  refine ha.out.mono ?_
  rintro e w4 ⟨rfl, hL⟩
  have ha := hL.add1 1 (by decide) 9 w4.heap.size rfl
  rw [show (([[(8, 0)], [(7, 3)]] : List (List Cl)).set 1 (addR (([[(8, 0)], [(7, 3)]] : List (List Cl)).getD 1 []) [9])) = [[(8, 0)], [(7, 3), (9, 0)]] from rfl, show ((1 : Nat) : Int) = 1 from rfl, show (if 1 ≤ 64 - (([[(8, 0)], [(7, 3)]] : List (List Cl)).getD 1 []).length then (0 : Int) else 3) = 0 from rfl] at ha
  replace ha := Lib.hid ha
  clear hL
  go_wp2_with fail
  refine ha.out.mono ?_
  rintro e w5 ⟨rfl, hL⟩
  have ho := lopen_any hL.all
  rw [show openC (([[(8, 0)], [(7, 3), (9, 0)]] : List (List Cl)).flatten) = 2 from rfl, show ((2 : Nat) : Int) = 2 from rfl] at ho
  replace ho := Lib.hid ho
  replace hL := Lib.hid hL
  clear ha
  go_wp2_with fail
  refine ho.out.mono ?_
  rintro e w6 ⟨rfl, hK6⟩
  have hd := (hL.out.kept hK6).done 5
  rw [show tellL 5 ([[(8, 0)], [(7, 3), (9, 0)]] : List (List Cl)) = [7] from rfl] at hd
  replace hd := Lib.hid hd
  clear hL ho hK6
  go_wp2_with fail
  refine hd.out.mono ?_
  rintro e w7 ⟨v, rfl, hr, hL⟩
  have hs := same_any [7] [7] v _ (w7.alloc (.cells #[.int .i64 7] 3)) (Slc.below (slc_of_row hr) (Keeps.alloc _ _)) (ints_new w7 3 [7] (by simp [maxLen]))
  rw [sameL_self] at hs
  replace hs := Lib.hid hs
  replace hL := Lib.hid hL
  obtain ⟨q, cp, rfl⟩ : ∃ q cp, v = .slice q 1 cp := by
    obtain ⟨q, cp, hv, _⟩ := slc_of_row hr
    exact ⟨q, cp, hv⟩
  clear hd hr
  go_wp2_with fail
  refine hs.out.mono ?_
  rintro e w8 ⟨rfl, hK8⟩
  replace hK8 := Lib.hid hK8
  go_wp2_with fail
  go_ret
  exact ⟨rfl, Keeps.trans hL.out.keeps (Keeps.trans (Keeps.alloc _ _) hK8.out)⟩
set_option maxRecDepth 100000 in
set_option maxHeartbeats 2000000 in
theorem lawNil11_any (c g : Int) (w : World) : Calls Try.prog 6 #[.int .i64 c, .int .i64 g] w fun e w' => e = .returned (.bool true) ∧ Keeps w w' := by
  have hk := known11_any w
  have hA : ∀ W : World, AllAt W (.pointer none) [] := fun W => .inl ⟨rfl, rfl⟩
  have ho := fun (W : World) => lopen_any (hA W)
  have hn := fun (W : World) => lnewest_any (hA W)
  have hl := fun (W : World) => llen_any (hA W)
  rw [show openC [] = 0 from rfl, show ((0 : Nat) : Int) = 0 from rfl] at ho
  rw [show newC [] = 0 from rfl] at hn
  rw [show (([] : List Cl).length : Int) = 0 from rfl] at hl
  replace hk := Lib.hid hk
  replace ho := Lib.hid ho
  replace hn := Lib.hid hn
  replace hl := Lib.hid hl
  clear hA
  go_enter Try.func6, Try.ntmps6
  go_wp2_with fail
  refine hk.out.mono ?_
  rintro e w1 ⟨rfl, hK1⟩
  replace hK1 := Lib.hid hK1
  go_wp2_with fail
  refine (ladd_nil _ _ _).mono ?_
  rintro e w2 ⟨rfl, rfl⟩
  go_wp2_with fail
  refine (lclose_nil _ _).mono ?_
  rintro e w3 ⟨rfl, hK3⟩
  replace hK3 := Lib.hid hK3
  go_wp2_with fail
  refine (ldone_nil _ _).mono ?_
  rintro e w4 ⟨rfl, rfl⟩
  go_wp2_with fail
  refine (lof_nil _ _).mono ?_
  rintro e w4 ⟨rfl, rfl⟩
  go_wp2_with fail
  refine (ho.out _).mono ?_
  rintro e w5 ⟨rfl, hK5⟩
  replace hK5 := Lib.hid hK5
  go_wp2_with fail
  refine (hn.out _).mono ?_
  rintro e w6 ⟨rfl, hK6⟩
  replace hK6 := Lib.hid hK6
  go_wp2_with fail
  refine (hl.out _).mono ?_
  rintro e w7 ⟨rfl, hK7⟩
  replace hK7 := Lib.hid hK7
  go_wp2_with fail
  go_ret
  exact ⟨rfl, Keeps.trans hK1.out (Keeps.trans (Keeps.alloc _ _) (Keeps.trans hK3.out (Keeps.trans hK5.out (Keeps.trans hK6.out hK7.out))))⟩
end Go.Proofs.Ytllnncojafcdoaa
