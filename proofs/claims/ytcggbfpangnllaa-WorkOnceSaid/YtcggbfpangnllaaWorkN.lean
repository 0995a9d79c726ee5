/- WorkOnce, plain: the law's tables, and what the works are. -/
import Derived.Test.YtcggbfpangnllaaLaw27
namespace Go.Proofs.Ytcggbfpangnllaa
open Go.RowKit i64

/-- A row of n numbers. -/
def rowI (n : Nat) (f : Nat → Int) : List Value := (List.range n).map fun j => .int .i64 (f j)
theorem rowI_get (n : Nat) (f : Nat → Int) (j : Nat) (h : j < n) : (rowI n f)[j]? = some (.int .i64 (f j)) := by simp [rowI, h]
theorem rowI_set (n : Nat) (f : Nat → Int) (j : Nat) (v : Int) : (rowI n f).set j (.int .i64 v) = rowI n (updI f j v) := map_range_set n f j v
/-- What the law's table tells of a thing: its CPU and one more. -/
def qf (Q : List Th) (i : Nat) : Int := if lkIB Q i then lkI Q i + 1 else 0
structure Agree (s : WS) (f5 f6 f7 : Nat → Int) : Prop where
  q : ∀ y ∈ s.Q, ∃ i c : Nat, i < 16 ∧ c < 3 ∧ y = ((i : Int), (c : Int)) ∧ s.pr i = (i : Int) + 1
  nd : (s.Q.map (·.1)).Nodup
  p : ∀ i, i < 16 → s.pr i = 0 ∨ s.pr i = (i : Int) + 1
  o : ∀ c, c < 32 → s.on c ≤ 3
  e5 : ∀ i, i < 16 → f5 i = qf s.Q i
  e6 : ∀ c, c < 32 → f6 c = s.on c
  e7 : ∀ k : Nat, k < 3 → f7 k = (cntTo s.on ((k : Int) + 1) 32 : Nat)
theorem qf_mem {Q : List Th} (h : (Q.map (·.1)).Nodup) {i : Nat} {c : Int} (hm : ((i : Int), c) ∈ Q) : qf Q i = c + 1 := by
  have hf : Q.find? (·.1 == (i : Int)) = some ((i : Int), c) := find_nd h hm
  unfold qf lkIB lkI
  rw [hf]; rfl
theorem qf_no {Q : List Th} {i : Nat} (h : lkIB Q i = false) : qf Q i = 0 := by unfold qf; rw [h]; rfl
theorem lkIB_erase {Q : List Th} (h : (Q.map (·.1)).Nodup) (x : Int) (j : Int) : lkIB (Q.eraseP (·.1 == x)) j = if j = x then false else lkIB Q j := by
  rw [eraseP_nd h]
  by_cases e : j = x
  · subst e
    rw [if_pos rfl]
    refine lkIB_false fun y hy => ?_
    have := (List.mem_filter.1 hy).2
    simpa using this
  · rw [if_neg e]
    cases hq : lkIB Q j with
    | true =>
      obtain ⟨y, hy, rfl⟩ := lkIB_iff.1 hq
      exact lkIB_iff.2 ⟨y, List.mem_filter.2 ⟨hy, by simpa using e⟩, rfl⟩
    | false =>
      refine lkIB_false fun y hy e2 => ?_
      have := lkIB_iff.2 ⟨y, (List.mem_filter.1 hy).1, e2⟩
      rw [hq] at this; cases this
theorem qf_erase {Q : List Th} (h : (Q.map (·.1)).Nodup) (x : Nat) (j : Nat) : qf (Q.eraseP (·.1 == (x : Int))) j = if j = x then 0 else qf Q j := by
  by_cases e : j = x
  · subst e
    rw [if_pos rfl]
    exact qf_no (by rw [lkIB_erase h, if_pos rfl])
  · rw [if_neg e]
    have hne : ¬ (j : Int) = (x : Int) := by omega
    have hb := lkIB_erase h (x : Int) (j : Int)
    rw [if_neg hne] at hb
    cases hq : lkIB Q j with
    | false => rw [hq] at hb; rw [qf_no hb, qf_no hq]
    | true =>
      obtain ⟨y, hy, e2⟩ := lkIB_iff.1 hq
      obtain ⟨a, b⟩ := y
      simp only at e2
      subst e2
      rw [qf_mem h hy]
      have h2 : ((Q.eraseP (·.1 == (x : Int))).map (·.1)).Nodup := h.sublist ((List.eraseP_sublist).map _)
      refine qf_mem h2 ?_
      rw [eraseP_nd h]
      exact List.mem_filter.2 ⟨hy, by simpa using hne⟩
theorem qf_snoc {Q : List Th} {x : Nat} (h : lkIB Q x = false) (c : Int) (j : Nat) : qf (Q ++ [((x : Int), c)]) j = if j = x then c + 1 else qf Q j := by
  unfold qf lkIB lkI
  rw [List.find?_append]
  by_cases e : j = x
  · subst e
    unfold lkIB at h
    have h0 : Q.find? (·.1 == (j : Int)) = none := by simpa using h
    rw [h0, if_pos rfl]
    simp
  · rw [if_neg e]
    have hne : ((x : Int) == (j : Int)) = false := by
      have : ¬ (x : Int) = (j : Int) := by omega
      simpa using this
    cases hq : Q.find? (·.1 == (j : Int)) with
    | some y => simp
    | none => simp [hne]
section
variable {s : WS} {f5 f6 f7 : Nat → Int}
theorem Agree.erase (h : Agree s f5 f6 f7) (x : Nat) (sh' : Nat → Bool) : Agree { s with sh := sh', Q := s.Q.eraseP (·.1 == (x : Int)) } (updI f5 x 0) f6 f7 := by
  refine ⟨fun y hy => h.q y (List.mem_of_mem_eraseP hy), h.nd.sublist ((List.eraseP_sublist).map _), h.p, h.o, fun i hi => ?_, h.e6, h.e7⟩
  show updI f5 x 0 i = qf (s.Q.eraseP (·.1 == (x : Int))) i
  rw [qf_erase h.nd]
  unfold updI
  split
  · rfl
  · exact h.e5 i hi
theorem Agree.set (h : Agree s f5 f6 f7) (x : Nat) (hx : x < 16) : Agree (setW s x x).1 f5 f6 f7 := by
  unfold setW
  rw [if_neg (not_not_intro (inId_nat (by omega))), if_neg (by omega), show ((x : Int)).toNat = x from rfl]
  split
  · exact h
  · refine ⟨fun y hy => ?_, h.nd, fun i hi => ?_, h.o, h.e5, h.e6, h.e7⟩
    · obtain ⟨i, c, h1, h2, h3, h4⟩ := h.q y hy
      refine ⟨i, c, h1, h2, h3, ?_⟩
      show updI s.pr x ((x : Int) + 1) i = _
      unfold updI
      split
      · rename_i e; rw [e]
      · exact h4
    · show updI s.pr x ((x : Int) + 1) i = 0 ∨ updI s.pr x ((x : Int) + 1) i = _
      unfold updI
      split
      · rename_i e; rw [e]; exact .inr rfl
      · exact h.p i hi
theorem Agree.post (h : Agree s f5 f6 f7) (x c : Nat) (hx : x < 16) (hc : c < 3) : ((postW 3 s x c).2 = 0 ∧ f5 x = 0 ∧ Agree (postW 3 s x c).1 (updI f5 x ((c : Int) + 1)) f6 f7) ∨ ((postW 3 s x c).2 ≠ 0 ∧ Agree (postW 3 s x c).1 f5 f6 f7) := by
  unfold postW
  rw [if_neg (not_not_intro (inId_nat (by omega))), if_neg (by omega), show ((x : Int)).toNat = x from rfl]
  by_cases h1 : s.sh x = true
  · rw [if_pos h1]; exact .inr ⟨by show (22 : Int) ≠ 0; decide, h⟩
  · rw [if_neg h1]
    by_cases h2 : s.pr x = 0
    · rw [if_pos h2]; exact .inr ⟨by show (1 : Int) ≠ 0; decide, h⟩
    · rw [if_neg h2]
      have ha : addC 3 s.Q c [(x : Int)] = if lkIB s.Q x then (s.Q, 5) else (s.Q ++ [((x : Int), (c : Int))], 0) := by
        unfold addC
        rw [if_neg (by omega)]
        unfold addM
        rw [if_pos (by omega)]
        rfl
      rw [ha]
      cases hl : lkIB s.Q x with
      | true => rw [if_pos rfl]; exact .inr ⟨by show (5 : Int) ≠ 0; decide, h⟩
      | false =>
        rw [if_neg (by decide)]
        refine .inl ⟨rfl, by rw [h.e5 x hx, qf_no hl], ⟨fun y hy => ?_, ?_, h.p, h.o, fun i hi => ?_, h.e6, h.e7⟩⟩
        · rcases List.mem_append.1 hy with hy | hy
          · exact h.q y hy
          · obtain rfl := List.mem_singleton.1 hy
            refine ⟨x, c, hx, hc, rfl, ?_⟩
            rcases h.p x hx with e | e
            · exact absurd e h2
            · exact e
        · rw [List.map_append, List.nodup_append]
          refine ⟨h.nd, by simp, fun a ha b hb e => ?_⟩
          obtain ⟨y, hy, rfl⟩ := List.mem_map.1 ha
          have hb' : b = (x : Int) := by simpa using hb
          have := lkIB_iff.2 ⟨y, hy, e.trans hb'⟩
          rw [hl] at this; cases this
        · show updI f5 x ((c : Int) + 1) i = qf (s.Q ++ [((x : Int), (c : Int))]) i
          rw [qf_snoc hl]
          unfold updI
          split
          · rfl
          · exact h.e5 i hi
theorem qf_pos (h : Agree s f5 f6 f7) (x : Nat) : 0 ≤ qf s.Q x := by
  cases hb : lkIB s.Q x with
  | false => rw [qf_no hb]; omega
  | true =>
    obtain ⟨y, hy, e⟩ := lkIB_iff.1 hb
    obtain ⟨i, c, _, _, rfl, _⟩ := h.q y hy
    have : i = x := Int.ofNat_inj.1 e
    subst this
    rw [qf_mem h.nd hy]; omega
theorem Agree.stop (h : Agree s f5 f6 f7) (x : Nat) (hx : x < 16) : (stopW s x).2.1 = decide (0 < f5 x) ∧ Agree (stopW s x).1 (updI f5 x 0) f6 f7 := by
  unfold stopW
  rw [if_neg (not_not_intro (inId_nat (by omega))), show ((x : Int)).toNat = x from rfl]
  have hq : ∀ b, lkIB s.Q x = b → decide (0 < f5 x) = b := fun b hb => by
    rw [h.e5 x hx]
    cases b with
    | false => rw [qf_no hb]; rfl
    | true =>
      obtain ⟨y, hy, e⟩ := lkIB_iff.1 hb
      obtain ⟨i, c, _, _, rfl, _⟩ := h.q y hy
      have : i = x := Int.ofNat_inj.1 e
      subst this
      rw [qf_mem h.nd hy]
      exact decide_eq_true (by omega)
  by_cases h2 : s.pr x = 0
  · rw [if_pos h2]
    have hl : lkIB s.Q x = false := by
      refine lkIB_false fun y hy e => ?_
      obtain ⟨i, c, _, _, rfl, h4⟩ := h.q y hy
      have : i = x := Int.ofNat_inj.1 e
      subst this; omega
    refine ⟨(hq false hl).symm, ⟨h.q, h.nd, h.p, h.o, fun i hi => ?_, h.e6, h.e7⟩⟩
    show updI f5 x 0 i = _
    unfold updI
    split
    · rename_i e; rw [e, qf_no hl]
    · exact h.e5 i hi
  · rw [if_neg h2]
    exact ⟨(hq _ rfl).symm, h.erase x s.sh⟩
theorem Agree.shut (h : Agree s f5 f6 f7) (x : Nat) (hx : x < 16) : Agree (shutL s [(x : Int)]).1 (updI f5 x 0) f6 f7 := by
  unfold shutL shutL shut1
  rw [if_neg (not_not_intro (inId_nat (by omega)))]
  exact h.erase x _
theorem Agree.begin {w W : World} {k p rb cap : Nat} {pp bb : Nat → Nat} (h : Agree s f5 f6 f7) (hI : WI w k p rb cap 3 pp bb s W) (c t : Nat) (hc : c < 3) (ht : t < 32) :
    ((beginW 3 s c t).2.2.2 ≠ 0 ∧ (beginW 3 s c t).1 = s) ∨
    ∃ x : Nat, x < 16 ∧ (beginW 3 s c t).2 = ((x : Int), (x : Int), 0) ∧ f5 x = (c : Int) + 1 ∧ f6 t = 0 ∧ (0 ≤ f7 c ∧ f7 c < 2) ∧ Agree (beginW 3 s c t).1 (updI f5 x 0) (updI f6 t ((c : Int) + 1)) (updI f7 c (f7 c + 1)) := by
  by_cases hf : (0 ≤ (t : Int) ∧ (t : Int) < 32) ∧ lkOB s.Rn t = false ∧ busyW 3 s.on c = 2
  · rw [beginW_full hf]; exact .inl ⟨by show (3 : Int) ≠ 0; decide, rfl⟩
  · rw [beginW_not hf]
    by_cases he : (begM 3 s.Q s.Rn c t).2.2 = 0
    · right
      rw [if_pos he]
      have hl : lkOB s.Rn t = false := by
        cases hl : lkOB s.Rn t with
        | false => rfl
        | true => exact absurd he (begM_run hl)
      obtain ⟨_, _, _, hm, hL⟩ := hI.pr.begY he
      have hb2 : busyW 3 s.on c ≠ 2 := fun e => hf ⟨by omega, hl, e⟩
      have hble := hI.busy_le c
      obtain ⟨x, d, hx, _, e1, hpx⟩ := h.q _ hm
      simp only [Prod.mk.injEq] at e1
      obtain ⟨e1, e2⟩ := e1
      rw [e1] at hm hL ⊢
      have h0 : s.on t = 0 := by
        have := hI.onr t ht
        rw [hl] at this
        simpa using this.symm
      have hbw : busyW 3 s.on c = cntTo s.on ((c : Int) + 1) 32 := by unfold busyW; rw [if_neg (by omega)]
      rw [hbw] at hb2 hble
      have h7 := h.e7 c hc
      refine ⟨x, hx, ?_, by rw [h.e5 x hx, qf_mem h.nd hm], by rw [h.e6 t ht, h0], by omega, ?_⟩
      · show ((x : Int), s.pr x - 1, (0 : Int)) = _
        rw [hpx, show (x : Int) + 1 - 1 = x by omega]
      · rw [hL]
        refine ⟨fun y hy => h.q y (List.mem_of_mem_eraseP hy), h.nd.sublist ((List.eraseP_sublist).map _), h.p, fun j hj => ?_, fun i hi => ?_, fun j hj => ?_, fun j hj => ?_⟩
        · show updI s.on t ((c : Int) + 1) j ≤ 3
          unfold updI; split
          · omega
          · exact h.o j hj
        · show updI f5 x 0 i = qf (s.Q.eraseP (·.1 == (x : Int))) i
          rw [qf_erase h.nd]
          unfold updI
          split
          · rfl
          · exact h.e5 i hi
        · show updI f6 t ((c : Int) + 1) j = updI s.on t ((c : Int) + 1) j
          unfold updI; split
          · rfl
          · exact h.e6 j hj
        · show updI f7 c (f7 c + 1) j = (cntTo (updI s.on t ((c : Int) + 1)) ((j : Int) + 1) 32 : Nat)
          have hu := cntTo_upd s.on ((j : Int) + 1) t ((c : Int) + 1) 32 ht
          rw [h0, if_neg (by omega)] at hu
          have h7j := h.e7 j hj
          unfold updI
          by_cases e : j = c
          · subst e
            rw [if_pos rfl] at hu ⊢
            unfold updI at hu; omega
          · rw [if_neg e]
            rw [if_neg (by omega)] at hu
            unfold updI at hu; omega
    · rw [if_neg he]; exact .inl ⟨he, rfl⟩
theorem Agree.end' {w W : World} {k p rb cap : Nat} {pp bb : Nat → Nat} (h : Agree s f5 f6 f7) (hI : WI w k p rb cap 3 pp bb s W) (t : Nat) (ht : t < 32) :
    (f6 t = 0 ∧ (endW s t).2.2 ≠ 0 ∧ (endW s t).1 = s) ∨
    ∃ d : Nat, d < 3 ∧ f6 t = (d : Int) + 1 ∧ (endW s t).2.2 = 0 ∧ (1 ≤ f7 d ∧ f7 d ≤ 32) ∧ Agree (endW s t).1 f5 (updI f6 t 0) (updI f7 d (f7 d - 1)) := by
  have hr := hI.onr t ht
  have hp := hI.onp t
  have ho := h.o t ht
  have h6 := h.e6 t ht
  unfold endW
  cases hl : lkOB s.Rn t with
  | false =>
    rw [hl] at hr
    have h0 : s.on t = 0 := by simpa using hr.symm
    exact .inl ⟨by rw [h6, h0], by show (4 : Int) ≠ 0; decide, rfl⟩
  | true =>
    rw [hl] at hr
    have h0 : s.on t ≠ 0 := by simpa using hr.symm
    right
    obtain ⟨d, hd⟩ : ∃ d : Nat, s.on t = (d : Int) + 1 := ⟨(s.on t - 1).toNat, by omega⟩
    have hd3 : d < 3 := by omega
    have h7 := h.e7 d hd3
    have hpos : 1 ≤ cntTo s.on ((d : Int) + 1) 32 := by
      have hu := cntTo_upd s.on ((d : Int) + 1) t 0 32 ht
      rw [hd, if_pos rfl, if_neg (by omega)] at hu
      omega
    have hle := cntTo_le s.on ((d : Int) + 1) 32
    refine ⟨d, hd3, by rw [h6, hd], rfl, by omega, ⟨h.q, h.nd, h.p, fun j hj => ?_, h.e5, fun j hj => ?_, fun j hj => ?_⟩⟩
    · show updI s.on t 0 j ≤ 3
      unfold updI; split
      · omega
      · exact h.o j hj
    · show updI f6 t 0 j = updI s.on t 0 j
      unfold updI; split
      · rfl
      · exact h.e6 j hj
    · show updI f7 d (f7 d - 1) j = (cntTo (updI s.on t 0) ((j : Int) + 1) 32 : Nat)
      have hu := cntTo_upd s.on ((j : Int) + 1) t 0 32 ht
      rw [hd, if_neg (show ¬ (0 : Int) = (j : Int) + 1 by omega)] at hu
      have h7j := h.e7 j hj
      unfold updI
      by_cases e : j = d
      · subst e
        rw [if_pos rfl] at hu ⊢
        unfold updI at hu; omega
      · rw [if_neg e]
        rw [if_neg (by omega)] at hu
        unfold updI at hu; omega
theorem Agree.zero : Agree WS.zero (fun _ => 0) (fun _ => 0) (fun _ => 0) :=
  ⟨fun y hy => (nomatch hy), List.nodup_nil, fun _ _ => .inl rfl, fun _ _ => by show (0 : Int) ≤ 3; decide, fun _ _ => rfl, fun _ _ => rfl, fun k _ => by rw [show WS.zero.on = fun _ => 0 from rfl, cntTo_zero _ (by omega)]; rfl⟩
end
theorem zero16 (w : World) : (zeroValue 41).run Try.prog w = .ok (.agg (rowI 16 fun _ => 0).toArray) w := by kernel_rfl
theorem zero32o (w : World) : (zeroValue 42).run Try.prog w = .ok (.agg (rowI 32 fun _ => 0).toArray) w := by kernel_rfl
theorem zero3 (w : World) : (zeroValue 43).run Try.prog w = .ok (.agg (rowI 3 fun _ => 0).toArray) w := by kernel_rfl
end Go.Proofs.Ytcggbfpangnllaa
