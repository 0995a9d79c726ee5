/- WorkOrder, plain: what is queued and what runs. -/
import Derived.Test.YtcggbfpangnllaaLaw27
import Derived.Test.YtcggbfpangnllaaIterG
namespace Go.Proofs.Ytcggbfpangnllaa
open Go.RowKit i64

/-- A row of 256 answers. -/
def rowB (f : Nat → Bool) : List Value := (List.range 256).map fun j => .bool (f j)
theorem rowB_get (f : Nat → Bool) (j : Nat) (h : j < 256) : (rowB f)[j]? = some (.bool (f j)) := by simp [rowB, h]
theorem rowB_set (f : Nat → Bool) (j : Nat) (b : Bool) : (rowB f).set j (.bool b) = rowB (fun k => if k = j then b else f k) := by
  unfold rowB
  apply List.ext_getElem?
  intro k
  rw [List.getElem?_set]
  by_cases e : j = k
  · subst e
    by_cases h : j < 256
    · simp [h]
    · simp [h]
  · rw [if_neg e]
    by_cases h : k < 256
    · simp [h, Ne.symm e]
    · simp [h]
theorem rowB_congr {f g : Nat → Bool} (h : ∀ j, j < 256 → f j = g j) : rowB f = rowB g := by
  unfold rowB
  exact List.map_congr_left fun j hj => by rw [h j (List.mem_range.1 hj)]
def rowB0 : List Value := rowB fun _ => false
/-- Things of CPU 1. -/
def prs (l : List Int) : List Th := l.map fun z => (z, 1)
theorem prs_q (l : List Int) : quL (prs l) 1 = l := by
  induction l with
  | nil => rfl
  | cons x l ih =>
    have : quL (prs (x :: l)) 1 = x :: quL (prs l) 1 := by simp [quL, prs]
    rw [this, ih]
theorem prs_has (l : List Int) (x : Int) : lkIB (prs l) x = decide (x ∈ l) := by
  by_cases h : x ∈ l
  · rw [decide_eq_true h]
    exact lkIB_iff.2 ⟨(x, 1), List.mem_map.2 ⟨x, h, rfl⟩, rfl⟩
  · rw [decide_eq_false h]
    refine lkIB_false fun y hy e => ?_
    obtain ⟨z, hz, rfl⟩ := List.mem_map.1 hy
    exact h (e ▸ hz)
theorem prs_snoc (l : List Int) (x : Int) : prs (l ++ [x]) = prs l ++ [(x, 1)] := by simp [prs]
/-- While works are posted. -/
structure S1 (l : List Int) (s : WS) : Prop where
  sh : ∀ i, s.sh i = false
  on : s.on = fun _ => 0
  Rn : s.Rn = []
  Q : s.Q = prs l
theorem S1.set {l : List Int} {s : WS} (h : S1 l s) (x : Nat) (hx : x < 256) : setW s x 0 = ({ s with pr := updI s.pr x 1 }, 0) := by
  unfold setW
  rw [if_neg (not_not_intro (inId_nat hx)), if_neg (by omega), if_neg (by rw [h.sh]; decide)]; rfl
theorem S1.post {l : List Int} {s : WS} (h : S1 l s) (x : Nat) (hx : x < 256) : (postW 2 { s with pr := updI s.pr x 1 } x 1).2 = (if (x : Int) ∈ l then 5 else 0) ∧ S1 (if (x : Int) ∈ l then l else l ++ [(x : Int)]) (postW 2 { s with pr := updI s.pr x 1 } x 1).1 := by
  have hs : ({ s with pr := updI s.pr x 1 } : WS).sh ((x : Int)).toNat = false := h.sh x
  have hp : ¬ ({ s with pr := updI s.pr x 1 } : WS).pr ((x : Int)).toNat = 0 := by
    show ¬ updI s.pr x 1 x = 0
    unfold updI; rw [if_pos rfl]; decide
  have ha : addC 2 s.Q 1 [(x : Int)] = if (x : Int) ∈ l then (s.Q, 5) else (s.Q ++ [((x : Int), 1)], 0) := by
    unfold addC
    rw [if_neg (by omega)]
    unfold addM
    rw [if_pos (by omega), h.Q, prs_has]
    by_cases hm : (x : Int) ∈ l
    · rw [decide_eq_true hm, if_pos hm]; rfl
    · rw [decide_eq_false hm, if_neg hm]; rfl
  have hw : postW 2 { s with pr := updI s.pr x 1 } x 1 = ({ s with pr := updI s.pr x 1, Q := (addC 2 s.Q 1 [(x : Int)]).1 }, (addC 2 s.Q 1 [(x : Int)]).2) := by
    unfold postW
    rw [if_neg (not_not_intro (inId_nat hx)), if_neg (by omega), hs, if_neg (by decide), if_neg hp]
  rw [hw, ha]
  by_cases hm : (x : Int) ∈ l
  · rw [if_pos hm, if_pos hm, if_pos hm]
    exact ⟨rfl, h.sh, h.on, h.Rn, h.Q⟩
  · rw [if_neg hm, if_neg hm, if_neg hm]
    exact ⟨rfl, h.sh, h.on, h.Rn, by show s.Q ++ _ = _; rw [h.Q, prs_snoc]⟩
/-- While works begin and end: the first k have begun. -/
structure S2 (l : List Int) (k : Nat) (s : WS) : Prop where
  Q : s.Q = prs (l.drop k)
  ctx : ∀ x ∈ s.Rn, 0 ≤ x.2 ∧ x.2 < 3
  on : ∀ c : Nat, c < 32 → s.on c = if lkOB s.Rn (c : Int) then 2 else 0
/-- At a round's start. -/
structure Pre (l : List Int) (k : Nat) (s : WS) : Prop where
  s2 : S2 l k s
  one : k = 1 → s.Rn = [(l.getD 0 0, 0)]
  no : k ≠ 1 → s.Rn = []
theorem S1.pre {l : List Int} {s : WS} (h : S1 l s) : Pre l 0 s :=
  ⟨⟨by rw [h.Q]; rfl, fun x hx => (by rw [h.Rn] at hx; exact (nomatch hx)), fun c _ => by rw [h.on, h.Rn]; rfl⟩, fun e => (nomatch e), fun _ => h.Rn⟩
theorem cntTo_congr {f g : Nat → Int} (v : Int) : ∀ k, (∀ c, c < k → f c = g c) → cntTo f v k = cntTo g v k
  | 0, _ => rfl
  | k + 1, h => by
    unfold cntTo
    rw [cntTo_congr v k (fun c hc => h c (by omega)), h k (by omega)]
theorem cntTo_pos {f : Nat → Int} {v : Int} {c : Nat} (hv : f c = v) : ∀ k, c < k → 1 ≤ cntTo f v k
  | 0, h => absurd h (Nat.not_lt_zero _)
  | k + 1, h => by
    unfold cntTo
    by_cases e : c = k
    · subst e; rw [if_pos hv]; omega
    · have := cntTo_pos hv k (by omega); omega
theorem lkOB_iff {L : List Th} {c : Int} : lkOB L c = true ↔ ∃ x ∈ L, x.2 = c := by
  unfold lkOB
  rw [List.find?_isSome]
  constructor
  · rintro ⟨x, hx, e⟩; exact ⟨x, hx, by simpa using e⟩
  · rintro ⟨x, hx, e⟩; exact ⟨x, hx, by simpa using e⟩
theorem Pre.busy {l : List Int} {k : Nat} {s : WS} (h : Pre l k s) : busyW 2 s.on 1 ≠ 2 := by
  unfold busyW
  rw [if_neg (by omega)]
  by_cases e : k = 1
  · have h1 := h.one e
    have : cntTo s.on (1 + 1) 32 = cntTo (fun c => if c = 0 then 2 else 0) 2 32 := cntTo_congr _ 32 fun c hc => by
      rw [h.s2.on c hc, h1]
      unfold lkOB
      by_cases e0 : c = 0
      · subst e0; rfl
      · have : ¬ (0 : Int) = (c : Int) := by omega
        simp [e0, this]
    rw [this]
    have e2 : cntTo (fun c => if c = 0 then 2 else 0) 2 32 = 1 := by kernel_rfl
    rw [e2]; decide
  · have h1 := h.no e
    have : cntTo s.on (1 + 1) 32 = cntTo (fun _ => 0) 2 32 := cntTo_congr _ 32 fun c hc => by
      rw [h.s2.on c hc, h1]; rfl
    rw [this, cntTo_zero 2 (by decide)]; decide
theorem Pre.begin {l : List Int} {k : Nat} {s : WS} (h : Pre l k s) (hk : k < l.length) (hnd : l.Nodup) : ∃ s' : WS, ∃ a : Int, beginW 2 s 1 ((k % 3 : Nat) : Int) = (s', l[k], a, 0) ∧ S2 l (k + 1) s' ∧ (k = 0 → Pre l 1 s') := by
  have hd : l.drop k = l[k] :: l.drop (k + 1) := List.drop_eq_getElem_cons hk
  have hc : k % 3 < 3 := Nat.mod_lt _ (by decide)
  have hfree : lkOB s.Rn ((k % 3 : Nat) : Int) = false := by
    by_cases e : k = 1
    · subst e; rw [h.one rfl]; rfl
    · rw [h.no e]; rfl
  have hrun : lkIB s.Rn l[k] = false := by
    by_cases e : k = 1
    · subst e
      rw [h.one rfl]
      refine lkIB_false fun y hy e2 => ?_
      obtain rfl := List.mem_singleton.1 hy
      have h0 : 0 < l.length := by omega
      have e3 : l[0] = l[1] := by simpa [List.getD, h0] using e2
      have := (List.getElem_inj hnd).1 e3
      cases this
    · rw [h.no e]; rfl
  have hbeg : begM 2 s.Q s.Rn 1 ((k % 3 : Nat) : Int) = ((prs (l.drop (k + 1)), s.Rn ++ [(l[k], ((k % 3 : Nat) : Int))]), l[k], 0) := by
    unfold begM
    rw [if_neg (by omega), hfree, if_neg (by decide), h.s2.Q, prs_q, hd]
    simp only
    rw [hrun, if_neg (by decide)]
    have : (prs (l[k] :: l.drop (k + 1))).eraseP (·.1 == l[k]) = prs (l.drop (k + 1)) := by
      show (((l[k], 1) : Th) :: prs (l.drop (k + 1))).eraseP (·.1 == l[k]) = _
      exact List.eraseP_cons_of_pos (by simp)
    rw [this]
  have hb := h.busy
  refine ⟨{ s with on := updI s.on (k % 3) 2, Q := prs (l.drop (k + 1)), Rn := s.Rn ++ [(l[k], ((k % 3 : Nat) : Int))] }, s.pr l[k].toNat - 1, ?_, ?_⟩
  · unfold beginW
    rw [if_neg (by omega), hfree, if_neg (by decide), if_neg hb, hbeg, if_pos rfl]; rfl
  · have hs2 : S2 l (k + 1) { s with on := updI s.on (k % 3) 2, Q := prs (l.drop (k + 1)), Rn := s.Rn ++ [(l[k], ((k % 3 : Nat) : Int))] } := by
      refine ⟨rfl, fun x hx => ?_, fun c hc => ?_⟩
      · rcases List.mem_append.1 hx with hx | hx
        · exact h.s2.ctx x hx
        · obtain rfl := List.mem_singleton.1 hx
          exact ⟨by show (0 : Int) ≤ ((k % 3 : Nat) : Int); omega, by show ((k % 3 : Nat) : Int) < 3; omega⟩
      · show updI s.on (k % 3) 2 c = if lkOB (s.Rn ++ [(l[k], ((k % 3 : Nat) : Int))]) c then 2 else 0
        rw [lkOB_snoc]
        unfold updI
        by_cases e : c = k % 3
        · subst e; simp
        · rw [if_neg e, h.s2.on c hc]
          have : (((k % 3 : Nat) : Int) == (c : Int)) = false := by
            have : ¬ ((k % 3 : Nat) : Int) = (c : Int) := by omega
            simpa using this
          show _ = if (lkOB s.Rn c || (((k % 3 : Nat) : Int) == (c : Int))) = true then 2 else 0
          rw [this, Bool.or_false]
    refine ⟨hs2, fun e => ?_⟩
    subst e
    refine ⟨hs2, fun _ => ?_, fun e => absurd rfl e⟩
    show s.Rn ++ _ = _
    rw [h.no (by decide)]
    have : 0 < l.length := hk
    simp [List.getD, this]
/-- Nothing runs: a round can start. -/
theorem S2.pre {l : List Int} {k : Nat} {s : WS} (h : S2 l k s) (hk : k ≠ 1) (hno : ∀ c : Nat, c < 3 → lkOB s.Rn (c : Int) = false) : Pre l k s := by
  refine ⟨h, fun e => absurd e hk, fun _ => ?_⟩
  cases hR : s.Rn with
  | nil => rfl
  | cons x R =>
    have hx : x ∈ s.Rn := by rw [hR]; simp
    have hc := h.ctx x hx
    have h1 := hno x.2.toNat (by omega)
    rw [show ((x.2.toNat : Nat) : Int) = x.2 by omega] at h1
    have h2 := lkOB_iff.2 ⟨x, hx, rfl⟩
    rw [h1] at h2; cases h2
theorem S2.idle {l : List Int} {k : Nat} {s : WS} (h : S2 l k s) (hb : busyW 2 s.on 1 = 0) : ∀ c : Nat, c < 3 → lkOB s.Rn (c : Int) = false := fun c hc => by
  cases hl : lkOB s.Rn (c : Int) with
  | false => rfl
  | true =>
    have ho := h.on c (by omega)
    rw [hl, if_pos rfl] at ho
    unfold busyW at hb
    rw [if_neg (by omega)] at hb
    have := cntTo_pos (v := 1 + 1) ho 32 (by omega)
    omega
theorem around3 {c : Nat} {L : List Th} (h : ∀ i, i < 3 → lkOB L (((c + i) % 3 : Nat) : Int) = false) : ∀ t : Nat, t < 3 → lkOB L (t : Int) = false := fun t ht => by
  have h0 := h 0 (by decide)
  have h1 := h 1 (by decide)
  have h2 := h 2 (by decide)
  have : (c + 0) % 3 = t ∨ (c + 1) % 3 = t ∨ (c + 2) % 3 = t := by omega
  rcases this with e | e | e
  · rw [e] at h0; exact h0
  · rw [e] at h1; exact h1
  · rw [e] at h2; exact h2
theorem S2.busy0 {l : List Int} {k : Nat} {s : WS} (h : S2 l k s) : busyW 2 s.on 0 = 0 := by
  unfold busyW
  rw [if_neg (by omega)]
  have : ∀ k, k ≤ 32 → cntTo s.on (0 + 1) k = 0 := by
    intro k
    induction k with
    | zero => intro _; rfl
    | succ k ih =>
      intro hk
      unfold cntTo
      rw [ih (by omega), if_neg (by rw [h.on k (by omega)]; split <;> decide)]
  exact this 32 (Nat.le_refl _)
theorem tmod3 (k : Nat) : (k : Int).tmod 3 = ((k % 3 : Nat) : Int) := by
  rw [Int.tmod_eq_emod_of_nonneg (by omega)]; rfl
theorem infoI27 : (Try.prog.info? 3).map (fun i => (i.zero, i.size, i.bytes)) = some (some (.int .i64 0), 1, 8) := by kernel_rfl
theorem zeroB27 (w : World) : (zeroValue 28).run Try.prog w = .ok (.agg rowB0.toArray) w := by kernel_rfl
end Go.Proofs.Ytcggbfpangnllaa
