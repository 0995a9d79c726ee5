/- Contracts of guard and its reference, side by side. -/
import Derived.Test.YtmjknhjlhnljpaaGuardR
namespace Go.Proofs.Ytmjknhjlhnljpaa
open Go.RowKit

theorem active_any {p b : Nat} {ms cs : List Nat} {w : World} (h : GuardAt w p b ms cs) (c : Int) :
    Calls Try.prog 13 #[.pointer (some ⟨p, 0, none⟩), .int .i64 c] w fun e w' => e = .returned (.int .u64 (actN ms c : Nat)) ∧ w = w' := by
  unfold actN
  by_cases hc : 0 ≤ c ∧ c < (ms.length : Int)
  · rw [if_pos hc]
    have := active_yes h c.toNat (by omega)
    rwa [show ((c.toNat : Nat) : Int) = c by omega] at this
  · rw [if_neg hc]
    exact active_no _ c w (.inr ⟨p, b, ms, cs, rfl, h, by omega⟩)
theorem actN_lt {p b : Nat} {ms cs : List Nat} {w : World} (h : GuardAt w p b ms cs) (c : Int) : actN ms c < 18446744073709551616 := by
  unfold actN
  split
  · exact getD_mem (P := fun m => m < 18446744073709551616) h.words (by omega)
  · decide
theorem bump_eq (cs : List Nat) (n : Nat) (hn : n < cs.length) (h : ∀ c ∈ cs, c ≤ 255) : cs.set n (min (cs.getD n 0 + 1) 255) = missN cs n := by
  have hx : cs.getD n 0 ≤ 255 := getD_mem (P := fun c => c ≤ 255) h hn
  unfold missN
  split
  · congr 1; omega
  · rename_i h2
    rw [show min (cs.getD n 0 + 1) 255 = cs.getD n 0 by omega, set_getD_self _ _ _ hn]
/-- What a call of the program leaves: a guard that says what the list says. -/
def Left (p b M : Nat) (l : List (Int × Int)) (cs : List Nat) (w' : World) : Prop := ∃ ms, GuardAt w' p b ms cs ∧ RelG ms l ∧ ms.length = M
theorem exit_all {p b : Nat} {ms cs : List Nat} {l : List (Int × Int)} {w : World} (h : GuardAt w p b ms cs) (hR : RelG ms l) (c n : Int) (v : Value) (hz : Ints w v [n, n]) :
    Calls Try.prog 10 #[.pointer (some ⟨p, 0, none⟩), .int .i64 c, v] w fun e w' => e = .returned (.int .i64 (if (c, n) ∈ l then 1 else 0)) ∧ Left p b ms.length (exiL l c n) cs w' ∧ Mut p b w w' := by
  by_cases hc : 0 ≤ c ∧ c < (ms.length : Int)
  · obtain ⟨k, rfl⟩ : ∃ k : Nat, c = k := ⟨c.toNat, by omega⟩
    have hk : k < ms.length := by omega
    have hw := getD_mem (P := fun m => m < 18446744073709551616) h.words hk
    refine (exit_yes h k hk v [n, n] hz).mono fun e w' ⟨he, hG, hM⟩ => ⟨?_, ⟨_, hG, ?_, by simp⟩, hM⟩
    · rw [he]
      congr 2
      by_cases hm : ((k : Int), n) ∈ l
      · rw [if_pos hm]
        have h3 := hR.rng _ hm
        simp only at h3
        have hh : hasN (ms.getD k 0) n.toNat = true := (hR.mem k n.toNat hk (by omega)).2 (by rw [show ((n.toNat : Nat) : Int) = n by omega]; exact hm)
        have := lenN_minus _ _ (show n.toNat < 64 by omega) hh
        rw [show ((n.toNat : Nat) : Int) = n by omega] at this
        omega
      · rw [if_neg hm, hR.without_same k n hk hm hw]; omega
    · unfold exiL
      rcases findI_mem l k n with ⟨⟨j, hj, e1, e2⟩, hm⟩ | ⟨_, hm⟩
      · rw [if_pos hm, e1, Int.toNat_natCast]; exact hR.exit k n hk j hj e2
      · rw [if_neg hm, hR.without_same k n hk hm hw, set_getD_self _ _ _ hk]; exact hR
  · have hm : (c, n) ∉ l := fun h' => hc ⟨(hR.rng _ h').1, (hR.rng _ h').2.1⟩
    refine (exit_no _ c v w (.inr ⟨p, b, ms, cs, rfl, h, by omega⟩)).mono fun e w' ⟨he, hw⟩ => ?_
    subst hw
    unfold exiL
    rw [if_neg hm, if_neg hm]
    exact ⟨he, ⟨ms, h, hR, rfl⟩, Mut.of_keeps (Keeps.refl _)⟩
theorem enter_all {p b : Nat} {ms cs : List Nat} {l : List (Int × Int)} {w : World} (h : GuardAt w p b ms cs) (hR : RelG ms l) (c n : Int) :
    Calls Try.prog 12 #[.pointer (some ⟨p, 0, none⟩), .int .i64 c, .int .i64 n] w fun e w' => e = .returned (.int .i64 (entE ms.length l c n)) ∧ Left p b ms.length (entL ms.length l c n) (entC ms.length l cs c n) w' ∧ Mut p b w w' := by
  unfold entE entL entC
  by_cases hb : badI ms.length c n
  · rw [if_pos hb, if_pos hb, if_pos hb]
    refine (enter_no h c n (by unfold badI at hb; omega)).mono fun e w' ⟨he, hw⟩ => ?_
    subst hw
    exact ⟨he, ⟨ms, h, hR, rfl⟩, Mut.of_keeps (Keeps.refl _)⟩
  · rw [if_neg hb, if_neg hb, if_neg hb]
    obtain ⟨k, rfl⟩ : ∃ k : Nat, c = k := ⟨c.toNat, by unfold badI at hb; omega⟩
    obtain ⟨j, rfl⟩ : ∃ j : Nat, n = j := ⟨n.toNat, by unfold badI at hb; omega⟩
    have hk : k < ms.length := by unfold badI at hb; omega
    have hj : j < 16 := by unfold badI at hb; omega
    by_cases hm : ((k : Int), (j : Int)) ∈ l
    · rw [if_pos hm, if_pos hm, if_pos hm, Int.toNat_natCast]
      refine (enter_miss h k j hk hj ((hR.mem k j hk (by omega)).2 hm)).mono fun e w' ⟨he, hG, hM⟩ => ⟨he, ⟨ms, ?_, hR, rfl⟩, hM⟩
      rwa [bump_eq cs j (by rw [h.len]; exact hj) h.counts] at hG
    · rw [if_neg hm, if_neg hm, if_neg hm]
      refine (enter_ok h k j hk hj (by
        cases hh : hasN (ms.getD k 0) j with
        | false => rfl
        | true => exact absurd ((hR.mem k j hk (by omega)).1 hh) hm)).mono fun e w' ⟨he, hG, hM⟩ => ⟨he, ⟨_, hG, hR.enter k j hk hj hm, by simp⟩, hM⟩

/-- An answer of the reference, with its list: the old one, or in new memory. -/
def RefA (w : World) (cpus : Int) (v0 : Value) (l : List (Int × Int)) (cs : List Nat) (r : Value) (e : Ending) (w' : World) : Prop :=
  ∃ v, e = .returned (.tuple #[.agg (gCells cpus v cs).toArray, r]) ∧ Pairs w' v l ∧ (v = v0 ∨ ∀ c, v.ownBlock = some c → w.heap.size ≤ c) ∧ Keeps w w'
theorem RefG.any {w : World} {cpus : Int} {v0 : Value} {l : List (Int × Int)} {cs : List Nat} {r : Value} {e : Ending} {w' : World} (h : RefG w cpus l cs r e w') : RefA w cpus v0 l cs r e w' := by
  obtain ⟨v, h1, h2, h3, h4⟩ := h
  exact ⟨v, h1, h2, .inr h3, h4⟩
theorem refExit_all (cpus : Int) (v : Value) (cs : List Nat) (l : List (Int × Int)) (a b : Int) (w : World) (hv : Pairs w v l) (hm : cs.length = 16) (hll : l.length ≤ 1000) :
    Calls Try.prog 9 #[.agg (gCells cpus v cs).toArray, .int .i64 a, .int .i64 b] w (RefA w cpus v (exiL l a b) cs (.bool (decide ((a, b) ∈ l)))) := by
  unfold exiL
  rcases findI_mem l a b with ⟨⟨j, hj, e1, e2⟩, hmem⟩ | ⟨e1, hmem⟩
  · rw [if_pos hmem, decide_eq_true hmem, e1, Int.toNat_natCast]
    exact (refExit_yes cpus v cs l a b j w hv hm hj e1 hll).mono fun e w' h => h.any
  · rw [if_neg hmem, decide_eq_false hmem]
    exact (refExit_no cpus v cs l a b w hv hm (by omega)).mono fun e w' ⟨he, hk⟩ => ⟨v, he, Slc_pairs hv hk, .inl rfl, hk⟩
theorem refEnter_all (cpus : Int) (v : Value) (cs : List Nat) (l : List (Int × Int)) (a b : Int) (w : World) (hv : Pairs w v l) (hm : cs.length = 16) (hc : ∀ c ∈ cs, c ≤ 255) (hll : l.length ≤ 1000) :
    Calls Try.prog 11 #[.agg (gCells cpus v cs).toArray, .int .i64 a, .int .i64 b] w (RefA w cpus v (entL cpus l a b) (entC cpus l cs a b) (.int .i64 (entE cpus l a b))) := by
  unfold entE entL entC
  by_cases hb : badI cpus a b
  · rw [if_pos hb, if_pos hb, if_pos hb]
    exact (refEnter_bad cpus v cs l a b w hv hm hb).mono fun e w' ⟨he, hk⟩ => ⟨v, he, Slc_pairs hv hk, .inl rfl, hk⟩
  · rw [if_neg hb, if_neg hb, if_neg hb]
    by_cases hmem : (a, b) ∈ l
    · rw [if_pos hmem, if_pos hmem, if_pos hmem]
      exact (refEnter_miss cpus v cs l a b w hv hm hc hb ((findI_nonneg l a b).2 hmem)).mono fun e w' ⟨he, hk⟩ => ⟨v, he, Slc_pairs hv hk, .inl rfl, hk⟩
    · rw [if_neg hmem, if_neg hmem, if_neg hmem]
      exact (refEnter_ok cpus v cs l a b w hv hm hb (by
        by_cases h : 0 ≤ findI l a b
        · exact absurd ((findI_nonneg l a b).1 h) hmem
        · omega) hll).mono fun e w' h => h.any
theorem entL_len (cpus : Int) (l : List (Int × Int)) (a b : Int) : (entL cpus l a b).length ≤ l.length + 1 := by
  unfold entL; split; · omega
  split; · omega
  simp
theorem exiL_len (l : List (Int × Int)) (a b : Int) : (exiL l a b).length ≤ l.length := by
  unfold exiL; split
  · unfold dropAt; rw [List.length_append, List.length_take, List.length_drop]; omega
  · omega
/-- Whole structs in a region that draws its order. -/
theorem quietRow {P : Program} {ops : Array Oper} {C : World → Prop} {Q : Act → Prop} {a : Act} {o : Oper} {rest : List Oper} {g : Nat} {t : TypeId} {cs : List Value} (hb : ∀ w', C w' → Blk w' g t cs) (hw : Region.wanted o (yielded ops a.tmps) = true) (ty : TypeId) (x : Operand) (ho : o.op = .load ty x)
    (hx : a.eval x = .pointer (some ⟨g, 0, none⟩)) (d : TypeDesc) (hu : P.underlying ty = some d) (hd : (match d with | .struct _ | .array _ _ => true | _ => false) = true) (n : Nat) (hi : (P.info? ty).map (·.size) = some n) (hn : cs.length = n)
    (h : wpQuiet P ops C Q rest (a.put o.dst (.agg cs.toArray))) : wpQuiet P ops C Q (o :: rest) a := by
  unfold wpQuiet
  rw [if_pos hw]
  refine ⟨.agg cs.toArray, fun w hC => ?_, h⟩
  have hl := run_loadVar_row (P := P) w g t ty cs.toArray (0, 0) d (hb w hC) hu hd (by rw [hi, List.size_toArray, hn])
  unfold Oper.quietAt execOp
  simp only [ho, hx, Instr.loadAt, Instr.sureAddr, Sem.run_bind, Sem.run_pure, Result.andThen_ok, hl]
  exact ⟨rfl, rfl⟩
end Go.Proofs.Ytmjknhjlhnljpaa
