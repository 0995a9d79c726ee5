/- The tops: a verified evaluator of the program (PQ). -/
import Derived.Test.YtkfeofhifmebkaaGreatDoorPM
import Derived.Test.YtkfeofhifmebkaaGreatDoorPK2
import Derived.Test.YtkfeofhifmebkaaGreatDoorPK3
import Derived.Test.YtkfeofhifmebkaaGreatDoorPK4
import Derived.Test.YtkfeofhifmebkaaGreatDoorPK1
import Derived.Test.YtkfeofhifmebkaaGreatDoorPK5
import Derived.Test.YtkfeofhifmebkaaGreatDoorPK6
import Derived.Test.YtkfeofhifmebkaaGreatDoorPK7
import Derived.Test.YtkfeofhifmebkaaGreatDoorPK8
import Derived.Test.YtkfeofhifmebkaaGreatDoorPM1
import Derived.Test.YtkfeofhifmebkaaGreatDoorPM2
set_option maxRecDepth 100000
namespace Go.Ev
open Go Go.Proofs
noncomputable section
/-! TopPeriod: the wheel's block -/
def s47 : SV := .slc 47 0 (.lit 1) Option.none
def s60 : SV := .slc 60 0 (.lit 0) Option.none
def csOf : AB → List SV
  | .sel cs _ _ _ _ => cs
  | _ => []
def wcs : List SV := csOf pb50
def xcs : List SV := csOf pb45
theorem pb50_eq : pb50 = .sel wcs 1 64 [(23, s47)] 415 := by kernel_rfl
theorem pb51_eq : pb51 = .sel wcs 1 64 [(23, s47), (25, .nils)] 415 := by kernel_rfl
theorem pb53_eq : pb53 = .sel wcs 1 64 [(23, s47), (25, s60)] 415 := by kernel_rfl
theorem pb54_eq : pb54 = .sel wcs 1 64 [(59, s60), (23, s47)] 415 := by kernel_rfl
theorem pb45_eq : pb45 = .sel xcs 1 64 [(23, s47)] 415 := by kernel_rfl
theorem pb52_eq : pb52 = .vec [] 3 := by kernel_rfl
theorem pb6_eq : pb6 = .vec [.int .i64 (.lit 0)] 3 := by kernel_rfl
def isTopB (o : Option SV) (a : Nat) : Bool := match o with
  | some v => match v with
    | .top b x => match Nat.beq a b with
      | true => match x with
        | .lit n => eqI n 0
        | _ => false
      | false => false
    | _ => false
  | Option.none => false
theorem isTopB_ok {o : Option SV} {a : Nat} (h : isTopB o a = true) : o = some (.top a (.lit 0)) := by
  unfold isTopB at h
  split at h
  · split at h
    · split at h
      · rename_i g
        split at h
        · rw [Nat.eq_of_beq_eq_true g, eqI_ok h]
        · cases h
      · cases h
    · cases h
  · cases h
def isNilsB (o : Option SV) : Bool := match o with
  | some v => match v with
    | .nils => true
    | _ => false
  | Option.none => false
theorem isNilsB_ok {o : Option SV} (h : isNilsB o = true) : o = some .nils := by
  unfold isNilsB at h
  split at h
  · split at h
    · rfl
    · cases h
  · cases h
theorem wcs_row0 : allP 64 (fun k => isTopB (getL wcs (Nat.succ k)) (1000 + 4 * k)) = true := by kernel_rfl
theorem wcs_row {k : Nat} (h : k < 64) : wcs[k + 1]? = some (.top (1000 + 4 * k) (.lit 0)) := by
  have := isTopB_ok (allP_at wcs_row0 h)
  rwa [getL_eq] at this
theorem xcs_row0 : allP 64 (fun k => isNilsB (getL xcs (Nat.succ k))) = true := by kernel_rfl
theorem xcs_row {k : Nat} (h : k < 64) : xcs[k + 1]? = some .nils := by
  have := isNilsB_ok (allP_at xcs_row0 h)
  rwa [getL_eq] at this
def restEq : Bool := match beqSVs (takeL1 wcs) (takeL1 xcs) with
  | true => beqSVs (dropL wcs 65) (dropL xcs 65)
  | false => false
  where takeL1 : List SV → List SV
  | [] => []
  | a :: _ => [a]
theorem restEq_ok : restEq = true := by kernel_rfl
theorem takeL1_eq (l : List SV) : restEq.takeL1 l = l.take 1 := by cases l <;> rfl
theorem rest_eq {j : Nat} (h : j = 0 ∨ 64 < j) : wcs[j]? = xcs[j]? := by
  have h0 := restEq_ok
  unfold restEq at h0
  split at h0
  · rename_i g
    have g := beqSVs_ok _ _ g
    have h1 := beqSVs_ok _ _ h0
    rw [takeL1_eq, takeL1_eq] at g
    rw [dropL_eq, dropL_eq] at h1
    rcases h with rfl | h
    · have e := congrArg (fun l => l[0]?) g
      simpa using e
    · have e := congrArg (fun l => l[j - 65]?) h1
      simp only [List.getElem?_drop] at e
      rwa [show 65 + (j - 65) = j by omega] at e
  · cases h0
theorem wcs_len : wcs.length = xcs.length ∧ 65 ≤ wcs.length := by
  have h1 : lenL wcs = lenL xcs := by kernel_rfl
  have h2 : Nat.ble 65 (lenL wcs) = true := by kernel_rfl
  rw [lenL_eq] at h1 h2
  rw [lenL_eq] at h1
  exact ⟨h1, Nat.le_of_ble_eq_true h2⟩
theorem deadB : wcs.all (fun s => match s with
  | .dead => false
  | _ => true) = true := by kernel_rfl
theorem wcs_live {j : Nat} {s : SV} (h : wcs[j]? = some s) : s ≠ .dead := by
  intro e
  subst e
  have := List.all_eq_true.1 deadB .dead (List.mem_of_getElem? h)
  cases this
/-- what the wheel's block holds -/
structure Wheel (ν : Nat → Int) (σ : Sg) (C : Array Value) : Prop where
  size : wcs.length = C.size
  slot : 0 ≤ ν 23 ∧ ν 23 < 64
  row : ∀ k : Nat, k < 64 → (k : Int) ≠ ν 23 → C[k + 1]? = some (.slice (topP ν (1000 + 4 * k)) 0 (topC ν (1000 + 4 * k)))
  mine : ∃ V, C[(ν 23).toNat + 1]? = some V ∧ Rep ν σ s47 V
  rest : ∀ (j : Nat) s, wcs[j]? = some s → j = 0 ∨ 64 < j → ∃ V, C[j]? = some V ∧ Rep ν σ s V
variable {P : Program} {ν : Nat → Int} {σ : Sg} {z : Nat} {C : Array Value}
theorem top_rep {a : Nat} {V : Value} : Rep ν σ (.top a (.lit 0)) V ↔ V = .slice (topP ν a) 0 (topC ν a) := by
  simp only [Rep, SInt.val]
  constructor
  · rintro ⟨l, rfl, h⟩
    have : l = 0 := by omega
    rw [this]
  · intro h
    exact ⟨0, h, rfl⟩
theorem Wheel.is50 (h : Wheel ν σ C) : pb50.Is P ν σ z (.cells C 415 (0, 0)) := by
  rw [pb50_eq]
  obtain ⟨V, h1, h2⟩ := h.mine
  obtain ⟨s1, s2⟩ := h.slot
  have hl := wcs_len.2
  refine ⟨C, rfl, h.size, by rw [← h.size]; omega, fun j s e => ?_, ⟨s1, s2, rfl, ⟨V, by rw [Nat.add_comm]; exact h1, h2⟩, (fun q hq => by cases hq), trivial⟩⟩
  by_cases hj : j = 0 ∨ 64 < j
  · exact .inr (.inr (h.rest j s e hj))
  · obtain ⟨k, rfl⟩ : ∃ k, j = k + 1 := ⟨j - 1, by omega⟩
    have hk : k < 64 := by omega
    rw [wcs_row hk] at e
    cases e
    by_cases hc : (k : Int) = ν 23
    · exact .inr (.inl ⟨_, .head _, by dsimp only; omega⟩)
    · exact .inr (.inr ⟨_, h.row k hk hc, top_rep.2 rfl⟩)
theorem Wheel.of50 (h : pb50.Is P ν σ z (.cells C 415 (0, 0))) : Wheel ν σ C := by
  rw [pb50_eq] at h
  obtain ⟨C', e, h1, h2, h3, s1, s2, _, ⟨V, v1, v2⟩, _, _⟩ := h
  cases e
  dsimp only at s1 s2 v1
  refine ⟨h1, ⟨s1, s2⟩, fun k hk hc => ?_, ⟨V, by rw [Nat.add_comm]; exact v1, v2⟩, fun j s e hj => ?_⟩
  · rcases h3 (k + 1) _ (wcs_row hk) with q | ⟨p, p1, p2⟩ | ⟨U, u1, u2⟩
    · cases q
    · rcases List.mem_cons.1 p1 with rfl | p1
      · dsimp only at p2; omega
      · cases p1
    · rw [u1, top_rep.1 u2]
  · rcases h3 j s e with q | ⟨p, p1, p2⟩ | ⟨U, u1, u2⟩
    · exact absurd q (wcs_live e)
    · rcases List.mem_cons.1 p1 with rfl | p1
      · dsimp only at p2; omega
      · cases p1
    · exact ⟨U, u1, u2⟩
theorem topP_neg {a : Nat} (h : ν a < 0) : topP ν a = none := by unfold topP; rw [if_pos h]
theorem Wheel.to (h : Wheel ν σ C) {τ : Sg} (hv : ∀ V, Rep ν σ s47 V → Rep ν τ s47 V) (hw : ∀ (j : Nat) s, wcs[j]? = some s → j = 0 ∨ 64 < j → ∀ V, Rep ν σ s V → Rep ν τ s V) : Wheel ν τ C :=
  ⟨h.size, h.slot, h.row, let ⟨V, a, b⟩ := h.mine; ⟨V, a, hv V b⟩, fun j s e hj => let ⟨V, a, b⟩ := h.rest j s e hj; ⟨V, a, hw j s e hj V b⟩⟩
/-- the row of the next slot is nil -/
theorem Wheel.is51 (h : Wheel ν σ C) (hs : 0 ≤ ν 25 ∧ ν 25 < 64) (hne : ν 25 ≠ ν 23) (hn : ν (1000 + 4 * (ν 25).toNat) < 0 ∧ ν (1000 + 4 * (ν 25).toNat + 2) = 0) : pb51.Is P ν σ z (.cells C 415 (0, 0)) := by
  rw [pb51_eq]
  obtain ⟨V, h1, h2⟩ := h.mine
  obtain ⟨s1, s2⟩ := h.slot
  have hl := wcs_len.2
  have hr := h.row (ν 25).toNat (by omega) (by omega)
  have e0 : Value.slice (topP ν (1000 + 4 * (ν 25).toNat)) 0 (topC ν (1000 + 4 * (ν 25).toNat)) = .slice none 0 0 := by
    rw [topP_neg hn.1]; unfold topC; rw [hn.2]; rfl
  refine ⟨C, rfl, h.size, by rw [← h.size]; omega, fun j s e => ?_, ⟨s1, s2, rfl, ⟨V, by rw [Nat.add_comm]; exact h1, h2⟩, (fun q hq => by rcases List.mem_cons.1 hq with rfl | hq; exact hne; cases hq), hs.1, hs.2, rfl, ⟨_, by rw [Nat.add_comm]; exact hr, by rw [e0]; simp only [Rep]⟩, (fun q hq => by cases hq), trivial⟩⟩
  by_cases hj : j = 0 ∨ 64 < j
  · exact .inr (.inr (h.rest j s e hj))
  · obtain ⟨k, rfl⟩ : ∃ k, j = k + 1 := ⟨j - 1, by omega⟩
    have hk : k < 64 := by omega
    rw [wcs_row hk] at e
    cases e
    by_cases hc : (k : Int) = ν 23
    · exact .inr (.inl ⟨_, .head _, by dsimp only; omega⟩)
    · exact .inr (.inr ⟨_, h.row k hk hc, top_rep.2 rfl⟩)
/-- the row of the next slot was used before -/
theorem Wheel.is53 (h : Wheel ν σ C) (hs : 0 ≤ ν 25 ∧ ν 25 < 64) (hne : ν 25 ≠ ν 23) {b y : Nat} (h60 : σ 60 = some (b, y)) (hn : ν (1000 + 4 * (ν 25).toNat) = (b : Int) ∧ ν (1000 + 4 * (ν 25).toNat + 1) = 0 ∧ ν (1000 + 4 * (ν 25).toNat + 2) = (y : Int) ∧ ν (1000 + 4 * (ν 25).toNat + 3) < 0) : pb53.Is P ν σ z (.cells C 415 (0, 0)) := by
  rw [pb53_eq]
  obtain ⟨V, h1, h2⟩ := h.mine
  obtain ⟨s1, s2⟩ := h.slot
  have hl := wcs_len.2
  have hr := h.row (ν 25).toNat (by omega) (by omega)
  have e0 : Value.slice (topP ν (1000 + 4 * (ν 25).toNat)) 0 (topC ν (1000 + 4 * (ν 25).toNat)) = .slice (some ⟨b, 0, none⟩) 0 y := by
    unfold topP topC
    rw [hn.1, hn.2.1, hn.2.2.1, if_neg (by omega), if_pos hn.2.2.2]; rfl
  refine ⟨C, rfl, h.size, by rw [← h.size]; omega, fun j s e => ?_, ⟨s1, s2, rfl, ⟨V, by rw [Nat.add_comm]; exact h1, h2⟩, (fun q hq => by rcases List.mem_cons.1 hq with rfl | hq; exact hne; cases hq), hs.1, hs.2, rfl, ⟨_, by rw [Nat.add_comm]; exact hr, by
    rw [e0]; unfold s60; simp only [Rep, SInt.val]; exact ⟨b, y, 0, y, h60, rfl, rfl, Nat.zero_le _, fun d hd => (nomatch hd), fun _ _ => rfl⟩⟩, (fun q hq => by cases hq), trivial⟩⟩
  by_cases hj : j = 0 ∨ 64 < j
  · exact .inr (.inr (h.rest j s e hj))
  · obtain ⟨k, rfl⟩ : ∃ k, j = k + 1 := ⟨j - 1, by omega⟩
    have hk : k < 64 := by omega
    rw [wcs_row hk] at e
    cases e
    by_cases hc : (k : Int) = ν 23
    · exact .inr (.inl ⟨_, .head _, by dsimp only; omega⟩)
    · exact .inr (.inr ⟨_, h.row k hk hc, top_rep.2 rfl⟩)
/-- behind the set-up all rows are nil, but one -/
theorem Wheel.of45 (h : pb45.Is P ν σ z (.cells C 415 (0, 0))) (hn : ∀ k : Nat, k < 64 → ν (1000 + 4 * k) < 0 ∧ ν (1000 + 4 * k + 2) = 0) : Wheel ν σ C := by
  rw [pb45_eq] at h
  obtain ⟨C', e, h1, h2, h3, s1, s2, _, ⟨V, v1, v2⟩, _, _⟩ := h
  cases e
  dsimp only at s1 s2 v1
  refine ⟨by rw [wcs_len.1]; exact h1, ⟨s1, s2⟩, fun k hk hc => ?_, ⟨V, by rw [Nat.add_comm]; exact v1, v2⟩, fun j s e hj => ?_⟩
  · rcases h3 (k + 1) _ (xcs_row hk) with q | ⟨p, p1, p2⟩ | ⟨U, u1, u2⟩
    · cases q
    · rcases List.mem_cons.1 p1 with rfl | p1
      · dsimp only at p2; omega
      · cases p1
    · simp only [Rep] at u2
      obtain ⟨a1, a2⟩ := hn k hk
      rw [u1, u2, topP_neg a1]; unfold topC; rw [a2]; rfl
  · have e' : xcs[j]? = some s := by rw [← rest_eq hj]; exact e
    rcases h3 j s e' with q | ⟨p, p1, p2⟩ | ⟨U, u1, u2⟩
    · exact absurd q (wcs_live e)
    · rcases List.mem_cons.1 p1 with rfl | p1
      · dsimp only at p2; omega
      · cases p1
    · exact ⟨U, u1, u2⟩
/-- behind a firing round: the old slot's row has its block's name yet -/
theorem Wheel.of54 {ν' : Nat → Int} {τ : Sg} (h : pb54.Is P ν σ z (.cells C 415 (0, 0))) {b y : Nat} (h60 : σ 60 = some (b, y)) (hs : ν' 23 = ν 23)
    (ho : ν' (1000 + 4 * (ν 59).toNat) = (b : Int) ∧ ν' (1000 + 4 * (ν 59).toNat + 1) = 0 ∧ ν' (1000 + 4 * (ν 59).toNat + 2) = (y : Int) ∧ ν' (1000 + 4 * (ν 59).toNat + 3) < 0)
    (hr : ∀ k : Nat, k < 64 → (k : Int) ≠ ν 23 → (k : Int) ≠ ν 59 → ∀ i, i < 4 → ν' (1000 + 4 * k + i) = ν (1000 + 4 * k + i))
    (hv : ∀ V, Rep ν σ s47 V → Rep ν' τ s47 V) (hw : ∀ (j : Nat) s, wcs[j]? = some s → j = 0 ∨ 64 < j → ∀ V, Rep ν σ s V → Rep ν' τ s V) : Wheel ν' τ C := by
  rw [pb54_eq] at h
  obtain ⟨C', e, h1, h2, h3, o1, o2, _, ⟨V', w1, w2⟩, hne, s1, s2, _, ⟨V, v1, v2⟩, _, _⟩ := h
  cases e
  dsimp only at o1 o2 s1 s2 v1 w1
  have hne : ν 23 ≠ ν 59 := hne _ (.head _)
  refine ⟨h1, by rw [hs]; exact ⟨s1, s2⟩, fun k hk hc => ?_, ⟨V, by rw [hs, Nat.add_comm]; exact v1, hv V v2⟩, fun j s e hj => ?_⟩
  · rw [hs] at hc
    by_cases hk2 : (k : Int) = ν 59
    · have hk3 : (ν 59).toNat = k := by omega
      rw [hk3] at ho
      rw [hk3, Nat.add_comm] at w1
      rw [w1]
      unfold s60 at w2
      simp only [Rep, SInt.val] at w2
      obtain ⟨b', y', l, c, r1, rfl, r2, r3, r4, r5⟩ := w2
      rw [h60] at r1; cases r1
      have hl : l = 0 := by omega
      have hc : c = y := r5 trivial trivial
      subst hl; subst hc
      unfold topP topC
      rw [ho.1, ho.2.1, ho.2.2.1, if_neg (by omega), if_pos ho.2.2.2]; rfl
    · rcases h3 (k + 1) _ (wcs_row hk) with q | ⟨p, p1, p2⟩ | ⟨U, u1, u2⟩
      · cases q
      · rcases List.mem_cons.1 p1 with rfl | p1
        · dsimp only at p2; omega
        · rcases List.mem_cons.1 p1 with rfl | p1
          · dsimp only at p2; omega
          · cases p1
      · rw [u1, top_rep.1 u2]
        have e0 := hr k hk hc hk2 0 (by decide)
        have e1 := hr k hk hc hk2 1 (by decide)
        have e2 := hr k hk hc hk2 2 (by decide)
        have e3 := hr k hk hc hk2 3 (by decide)
        rw [Nat.add_zero] at e0
        simp only [topP, topC, e0, e1, e2, e3]
  · rcases h3 j s e with q | ⟨p, p1, p2⟩ | ⟨U, u1, u2⟩
    · exact absurd q (wcs_live e)
    · rcases List.mem_cons.1 p1 with rfl | p1
      · dsimp only at p2; omega
      · rcases List.mem_cons.1 p1 with rfl | p1
        · dsimp only at p2; omega
        · cases p1
    · exact ⟨U, u1, hw j s e hj U u2⟩
end
end Go.Ev
set_option maxRecDepth 100000
namespace Go.Ev
open Go Go.Proofs
noncomputable section
/-! TopPeriod: where the machine stands at the loop's head -/
theorem mkT'_mem : ∀ (l : List (Nat × Nat)) (t : T Nat) (k : T Nat → R), ∃ t', mkT' l t k = k t' ∧ ∀ n a, getT t' n = some a → getT t n = some a ∨ (n, a) ∈ l := by
  intro l
  induction l with
  | nil => intro t k; exact ⟨t, rfl, fun n a h => .inl h⟩
  | cons p l ih =>
    intro t k
    obtain ⟨a, b⟩ := p
    simp only [mkT']
    obtain ⟨t1, h1, h2⟩ := setTK_spec t a (some b) (fun t => mkT' l t k)
    rw [h1]
    obtain ⟨t2, h3, h4⟩ := ih t1 k
    refine ⟨t2, h3, fun n c e => ?_⟩
    rcases h4 n c e with q | q
    · rw [h2] at q
      split at q
      · rename_i g; cases q; subst g; exact .inr (.head _)
      · exact .inl q
    · exact .inr (.tail _ q)
theorem finP_M {ren : List (Nat × Nat)} {ints : List (SInt × SInt)} {kd : Nat} {logs : List (Nat × List SV × Nat)} {aL a : A} {sL st : St} {out} (h : finP ren ints kd logs aL sL a st = .ok out) : ∃ r i, finM ⟨r, i, ints, keepP kd, logs⟩ szP aL sL a st = .ok out := by
  unfold finP at h
  obtain ⟨r, h1, _⟩ := mkT'_mem ren .leaf (fun r => mkT' (swapP ren) .leaf fun i => finM ⟨r, i, ints, keepP kd, logs⟩ szP aL sL a st)
  rw [h1] at h
  obtain ⟨i, h2, _⟩ := mkT'_mem (swapP ren) .leaf (fun i => finM ⟨r, i, ints, keepP kd, logs⟩ szP aL sL a st)
  rw [h2] at h
  exact ⟨r, i, h⟩
theorem finM_names {m : MC} {sz : TypeId → Nat} {aL a : A} {sL st : St} {out} (h : finM m sz aL sL a st = .ok out) : ∀ n b, getT sL.heap n = some b → ∃ n' x, getT m.ren n = some n' ∧ getT st.heap n' = some x := by
  unfold finM at h
  split at h
  case h_2 => cases h
  split at h
  case h_2 => cases h
  split at h
  case h_2 => cases h
  split at h
  case h_2 => cases h
  rename_i g4
  intro n b e
  obtain ⟨k, x, h1, _, h2, _⟩ := sameT_ok g4 n b e
  rw [Nat.one_mul, Nat.add_zero] at h1
  exact ⟨k, x, h1, h2⟩
/-! names below 60 alone, rows of their own numbers -/
def idR : Nat → List (Nat × Nat)
  | 0 => []
  | n + 1 => (n, n) :: idR n
theorem idR_mem {n a b : Nat} (h : (a, b) ∈ idR n) : a < n ∧ b = a := by
  induction n with
  | zero => cases h
  | succ n ih =>
    rcases List.mem_cons.1 h with e | h
    · cases e; exact ⟨by omega, rfl⟩
    · obtain ⟨h1, h2⟩ := ih h; exact ⟨by omega, h2⟩
def keepR (i : Nat) : Bool := match inR 1000 1256 i with
  | true => false
  | false => true
def selfL (m : MC) : List SV → Bool
  | [] => true
  | v :: l => match sameV m v v with
    | true => selfL m l
    | false => false
def chkW (m : MC) : Bool := match sameV m s47 s47 with
  | true => match selfL m (restEq.takeL1 wcs) with
    | true => match sameN m 42 42 with
      | true => selfL m (dropL wcs 65)
      | false => false
    | false => false
  | false => false
def finId : R := mkT' (idR 60) .leaf fun r => match chkW ⟨r, r, [], keepR, [(5000, [], 5000)]⟩ with
  | true => finM ⟨r, r, [], keepR, [(5000, [], 5000)]⟩ szP hA h0S hA h0S
  | false => .err "wheel"
end
theorem run_id : isOkB finId = true := by kernel_rfl
theorem selfL_ok {m : MC} : ∀ {l : List SV}, selfL m l = true → ∀ (j : Nat) s, l[j]? = some s → sameV m s s = true := by
  intro l
  induction l with
  | nil => intro _ j s e; simp at e
  | cons v l ih =>
    intro h j s e
    simp only [selfL] at h
    split at h
    · rename_i g
      cases j with
      | zero => cases e; exact g
      | succ j => exact ih h j s e
    · cases h
/-- a renaming that keeps the names below 60 -/
structure IdM (m : MC) : Prop where
  ren : ∀ n a, getT m.ren n = some a → a = n ∧ n < 60
  ints : m.ints = [] ∧ m.keep = keepR ∧ m.logs = [(5000, [], 5000)]
  s47 : sameV m s47 s47 = true
  n42 : getT m.ren 42 = some 42
  rest : ∀ (j : Nat) s, wcs[j]? = some s → j = 0 ∨ 64 < j → sameV m s s = true
  fin : ∃ out, finM m szP hA h0S hA h0S = .ok out
theorem idM : ∃ m, IdM m := by
  obtain ⟨out, h⟩ := isOkB_ok run_id
  unfold finId at h
  obtain ⟨r, h1, h2⟩ := mkT'_mem (idR 60) .leaf (fun r => match chkW ⟨r, r, [], keepR, [(5000, [], 5000)]⟩ with
  | true => finM ⟨r, r, [], keepR, [(5000, [], 5000)]⟩ szP hA h0S hA h0S
  | false => .err "wheel")
  have h3 : (match chkW ⟨r, r, [], keepR, [(5000, [], 5000)]⟩ with
  | true => finM ⟨r, r, [], keepR, [(5000, [], 5000)]⟩ szP hA h0S hA h0S
  | false => .err "wheel") = .ok out := by rw [← h1]; exact h
  split at h3
  · rename_i g
    unfold chkW at g
    split at g
    case h_2 => cases g
    rename_i g1
    split at g
    case h_2 => cases g
    rename_i g2
    split at g
    case h_2 => cases g
    rename_i g3
    refine ⟨_, ⟨fun n a e => ?_, ⟨rfl, rfl, rfl⟩, g1, sameN_ok g3, fun j s e hj => ?_, ⟨_, h3⟩⟩⟩
    · rcases h2 n a e with q | q
      · rw [getT_leaf] at q; cases q
      · obtain ⟨q1, q2⟩ := idR_mem q; exact ⟨q2, q1⟩
    · rcases hj with rfl | hj
      · rw [takeL1_eq] at g2
        exact selfL_ok g2 0 s (by simpa using e)
      · rw [dropL_eq] at g
        exact selfL_ok g (j - 65) s (by rw [List.getElem?_drop, show 65 + (j - 65) = j by omega]; exact e)
  · cases h3
/-- rows of the wheel that were used before: where they are, and their room -/
def rowsU (U : Nat → Option (Nat × Nat)) (i : Nat) : Int := match U (i / 4) with
  | none => if i % 4 = 0 then -1 else if i % 4 = 3 then -1 else 0
  | some p => if i % 4 = 0 then (p.1 : Int) else if i % 4 = 1 then 0 else if i % 4 = 2 then (p.2 : Int) else -1
structure RowsAt (U : Nat → Option (Nat × Nat)) (base : Nat) (σ : Sg) (w : World) (wb : Nat) : Prop where
  mem : ∀ k b z, k < 64 → U k = some (b, z) → base ≤ b ∧ z ≤ maxLen ∧ b ≠ wb ∧ (∃ C, w.heap[b]? = some (.cells C 3 (0, 0)) ∧ C.size = z * Tryz.prog.cellsOf 3) ∧ ∀ n c y, getT h0S.heap n = some c → σ n ≠ some (b, y)
  apart : ∀ k j b z y, k < 64 → j < 64 → U k = some (b, z) → U j = some (b, y) → k = j
noncomputable abbrev EP : Env := envP 0
/-- the machine stands at the loop's head -/
def AtP (q : Pn) (base : Nat) (w0 : World) (act : Act) (w : World) : Prop :=
  ∃ (U : Nat → Option (Nat × Nat)) (σ : Sg) (wb z : Nat) (C : Array Value), q.rows = rowsU U ∧ Sim Tryz.prog EP q.V base σ h0S w ∧ RepA q.V σ 115 hA act ∧ BaseKept base w0 w ∧ σ 60 = none ∧ σ 42 = some (wb, z) ∧ base ≤ wb ∧ w.heap[wb]? = some (.cells C 415 (0, 0)) ∧
    (∀ n c y, getT h0S.heap n = some c → σ n ≠ some (wb, y)) ∧ Wheel q.V σ C ∧ RowsAt U base σ w wb
theorem cellsP : ∀ t, szP t ≠ 0 → Tryz.prog.cellsOf t = szP t := by
  intro t h
  by_cases g : t = 34
  · subst g; exact cells34
  · exact absurd (by unfold szP; split <;> first | (rename_i q; exact absurd rfl g) | rfl) h
theorem globP : GlobFree EP := globF rfl
theorem zeroP (q : Pn) : q.V 0 = 0 ∧ q.V (logN 0) = 0 := ⟨rfl, by simp [Pn.V, logN]⟩
/-- the names are told anew -/
theorem settle {q q2 : Pn} {U : Nat → Option (Nat × Nat)} {base : Nat} {w0 w : World} {act : Act} {σ : Sg} {wb z : Nat} {C : Array Value} (hν : ∀ i, keepR i = true → q.V i = q2.V i) (hU : q2.rows = rowsU U) (hs : Sim Tryz.prog EP q.V base σ h0S w) (hr : RepA q.V σ 115 hA act) (hk : BaseKept base w0 w) (h42 : σ 42 = some (wb, z)) (hwb : base ≤ wb)
    (hw : w.heap[wb]? = some (.cells C 415 (0, 0))) (hj : ∀ n c y, getT h0S.heap n = some c → σ n ≠ some (wb, y))
    (hW : ∀ τ : Sg, (∀ V, Rep q.V σ s47 V → Rep q2.V τ s47 V) → (∀ (j : Nat) s, wcs[j]? = some s → j = 0 ∨ 64 < j → ∀ V, Rep q.V σ s V → Rep q2.V τ s V) → Wheel q2.V τ C)
    (hR : ∀ τ : Sg, (∀ n p, τ n = some p → σ n = some p) → τ 60 = none → RowsAt U base τ w wb) : AtP q2 base w0 act w := by
  obtain ⟨m, hm⟩ := idM
  obtain ⟨out, hf⟩ := hm.fin
  have hi : IntsOk m q.V q2.V := ⟨fun p hp => (by rw [hm.ints.1] at hp; cases hp), fun i h => hν i (by rw [← hm.ints.2.1]; exact h)⟩
  have hlg : LogsOk m q.V q2.V := by
    intro p hp
    rw [hm.ints.2.2] at hp
    have := List.mem_singleton.1 hp
    subst this
    refine ⟨?_, ?_⟩
    · have := hν 5000 (by decide)
      show q2.V 5000 = q.V 5000 + ((0 / 5 : Nat) : Int)
      rw [← this]; omega
    · have := hν (logN 5000) (by decide)
      show evsOf (q2.V (logN 5000)) = evsOf (q.V (logN 5000)) ++ []
      rw [← this, List.append_nil]
  obtain ⟨f1, f2⟩ := finM_ok (P := Tryz.prog) (E := EP) (E' := EP) (base := base) cellsP hi hlg (zeroP q) rfl globP hf
  have hback : ∀ n p, σ.back m n = some p → σ n = some p ∧ n < 60 := by
    intro n p e
    unfold Sg.back at e
    cases g : getT m.ren n with
    | none => rw [g] at e; cases e
    | some a =>
      obtain ⟨g1, g2⟩ := hm.ren n a g
      rw [g] at e
      subst g1
      exact ⟨e, g2⟩
  have hm47 := hm.s47
  have h60 : σ.back m 60 = none := by
    cases g : σ.back m 60 with
    | none => rfl
    | some p => have := (hback 60 p g).2; omega
  have hW2 : Wheel q2.V (σ.back m) C := hW _ (fun V hV => sameV_ok hi _ _ hm.s47 hV) (fun j s e hj V hV => sameV_ok hi _ _ (hm.rest j s e hj) hV)
  refine ⟨U, σ.back m, wb, z, C, hU, f1 σ w hs, f2 σ 115 act hr, hk, h60, by unfold Sg.back; rw [hm.n42]; exact h42, hwb, hw, fun n c y e1 e2 => hj n c y e1 (hback n _ e2).1, hW2, hR _ (fun n p e => (hback n p e).1) h60⟩
end Go.Ev
set_option maxRecDepth 100000
namespace Go.Ev
open Go Go.Proofs
/-! TopPeriod: the rounds -/
theorem put1_get (s : St) (n : Nat) (b : Option AB) : (put1 s n b).next = s.next ∧ ∀ m, getT (put1 s n b).heap m = if m = n then b else getT s.heap m := by
  obtain ⟨h, nx⟩ := s
  unfold put1
  dsimp only
  obtain ⟨t, e, g⟩ := setTK_spec h n b (fun t => (⟨t, nx⟩ : St))
  rw [e]
  exact ⟨rfl, g⟩
theorem simPut1 {P : Program} {E : Env} {base : Nat} {ν : Nat → Int} {σ : Sg} {s : St} {w : World} (hs : Sim P E ν base σ s w) {n bl z : Nat} {o : Obj} {b : AB} (hσ : σ n = some (bl, z)) (hb : base ≤ bl) (ho : w.heap[bl]? = some o) (hi : b.Is P ν σ z o)
    (hj : ∀ m c y, m ≠ n → getT s.heap m = some c → σ m ≠ some (bl, y)) : Sim P E ν base σ (put1 s n (some b)) w := by
  obtain ⟨g1, g2⟩ := put1_get s n (some b)
  obtain ⟨h, nx⟩ := s
  generalize Ev.put1 ⟨h, nx⟩ n (some b) = s1 at g1 g2 ⊢
  obtain ⟨h1, nx1⟩ := s1
  dsimp only at g1 g2
  subst g1
  exact hs.put (by rw [g2, if_pos rfl]) (fun m hm => by rw [g2, if_neg hm]) hσ hb ho hi hj
theorem h0_42 : getT h0S.heap 42 = none := by
  unfold h0S
  rw [(put1_get hIS 42 Option.none).2, if_pos rfl]
theorem hIS_get (m : Nat) : getT hIS.heap m = if m = 42 then some pb50 else getT h0S.heap m := by
  rw [hIS_eq]; exact (put1_get h0S 42 (some pb50)).2 m
theorem hNS_get (m : Nat) : getT hNS.heap m = if m = 42 then some pb51 else getT h0S.heap m := by
  rw [hNS_eq]; exact (put1_get h0S 42 (some pb51)).2 m
theorem x0S_get (m : Nat) : getT x0S.heap m = if m = 42 then some pb45 else getT h0S.heap m := by
  rw [x0S_eq]; exact (put1_get h0S 42 (some pb45)).2 m
theorem hUS_get (m : Nat) : getT hUS.heap m = if m = 42 then some pb53 else if m = 60 then some pb52 else getT h0S.heap m := by
  rw [hUS_eq, (put1_get (put1 h0S 60 (some pb52)) 42 (some pb53)).2 m, (put1_get h0S 60 (some pb52)).2 m]
theorem xFS_get (m : Nat) : getT xFS.heap m = if m = 42 then some pb54 else if m = 60 then some pb6 else getT h0S.heap m := by
  rw [xFS_eq, (put1_get (put1 h0S 60 (some pb6)) 42 (some pb54)).2 m, (put1_get h0S 60 (some pb6)).2 m]
def noneB (o : Option AB) : Bool := match o with
  | Option.none => true
  | some _ => false
theorem noneB_ok {o : Option AB} (h : noneB o = true) : o = none := by
  cases o with
  | none => rfl
  | some a => cases h
theorem h0_60 : getT h0S.heap 60 = none := noneB_ok (by kernel_rfl)
theorem nI : Nat.beq hIS.next 100 = true := by kernel_rfl
theorem nF : Nat.beq xFS.next 100 = true := by kernel_rfl
theorem n0 : Nat.beq x0S.next 100 = true := by kernel_rfl
end Go.Ev
set_option maxRecDepth 100000
namespace Go.Ev
open Go Go.Proofs
theorem f4_nt : Tryz.f4.ntmps = 115 := by kernel_rfl
theorem runCs1 {P : Program} {E : Env} {ν : Nat → Int} {base : Nat} {sf : Self} (hS : SelfOk P E ν base sf) {fn : FuncId} {F0 : Func} (hF0 : P.funcs[fn]? = some F0) {c : Code} {a : A} {st : St} {k : A → St → R} {out} (h : runCs sf fn [c] a st k = .ok out) :
    ∃ a1 st1, k a1 st1 = .ok out ∧ Lands P E ν base F0.ntmps c Option.none a st .normal a1 st1 := by
  simp only [runCs] at h
  have h0 := hS.code h; clear h; obtain ⟨e, a1, st1, h, F1, hF1, h1⟩ := h0
  rw [hF0] at hF1; cases hF1
  cases e <;> dsimp only at h <;> try (cases h; done)
  exact ⟨a1, st1, h, h1⟩
theorem run1 {ph : Nat} {ν : Nat → Int} {base : Nat} (hS : SelfOk Tryz.prog (envP ph) ν base (sfP ph)) {sS tS : St} {ren : List (Nat × Nat)} {ints : List (SInt × SInt)} {kd : Nat} {logs : List (Nat × List SV × Nat)} (h : isOkB (runCs (sfP ph) 4 [pdLoop] hA sS (finP ren ints kd logs hA tS)) = true) :
    ∃ a1 st1 r i out, Lands Tryz.prog (envP ph) ν base 115 pdLoop Option.none hA sS .normal a1 st1 ∧ finM ⟨r, i, ints, keepP kd, logs⟩ szP hA tS a1 st1 = .ok out := by
  generalize sfP ph = sf at hS h
  obtain ⟨out, ho⟩ := isOkB_ok h
  obtain ⟨a1, st1, h1, hl⟩ := runCs1 hS Tryz.func4 ho
  rw [f4_nt] at hl
  obtain ⟨r, i, h2⟩ := finP_M h1
  exact ⟨a1, st1, r, i, out, hl, h2⟩
/-- blocks that no name stands for -/
theorem after_run {E : Env} {ν : Nat → Int} {base : Nat} {sS tS st' : St} {σ σ' : Sg} {w w' : World} (go : Goes Tryz.prog E ν base σ sS w σ' st' w') {m : MC} {sz : TypeId → Nat} {a' : A} {out} (hf : finM m sz hA tS a' st' = .ok out) {b : Nat} (hb : b < w.heap.size)
    (hu : ∀ n c y, getT sS.heap n = some c → σ n ≠ some (b, y)) : w'.heap[b]? = w.heap[b]? ∧ ∀ n c y, getT tS.heap n = some c → σ'.back m n ≠ some (b, y) := by
  refine ⟨go.1.keep b hb fun n c z e => hu n c z e, fun n c y e h => ?_⟩
  obtain ⟨n', x, h1, h2⟩ := finM_names hf n c e
  unfold Sg.back at h
  rw [h1] at h
  rcases go.1.dom n' x b y h2 h with ⟨k, d, y', g1, g2⟩ | g
  · exact hu k d y' g1 g2
  · omega
noncomputable def Pn.idle (q : Pn) : Pn := { q with N := q.N + 1, L := q.L + 2, log := codeL (evsOf q.log ++ evsSV q.V idleL), log2 := codeL ((evsOf q.log ++ evsSV q.V idleL).drop 13) }
noncomputable def Pn.fire1 (q : Pn) (l : List SV) : Pn := { q with N := q.N + 1, K := q.K + 1, L := q.L + 5, log := codeL (evsOf q.log ++ evsSV q.V l), log2 := codeL ((evsOf q.log ++ evsSV q.V l).drop 13), old := ((q.P * q.K % 64 : Nat) : Int) }
noncomputable def Pn.fire (q : Pn) (l : List SV) (U : Nat → Option (Nat × Nat)) : Pn := { q.fire1 l with rows := rowsU U }
theorem inR_ok {a b i : Nat} (h : inR a b i = true) : a ≤ i ∧ i < b := by
  unfold inR at h
  split at h
  · rename_i g; exact ⟨Nat.le_of_ble_eq_true g, Nat.le_of_ble_eq_true h⟩
  · cases h
theorem beqN {i j : Nat} (h : Nat.beq i j = true) : i = j := Nat.eq_of_beq_eq_true h
theorem idle_keep (q : Pn) : ∀ i, keepP 1 i = true → q.V i = q.idle.V i := by
  intro i h
  unfold keepP at h
  split at h
  · rename_i g; rw [beqN g, Pn.v10, Pn.v10]; rfl
  · split at h
    · rename_i g; rw [beqN g, Pn.v11, Pn.v11]; rfl
    · change (match inR 1000 1256 i with
        | true => true
        | false => match inR 22 25 i with
          | true => true
          | false => match Nat.beq i 30 with
            | true => true
            | false => Nat.beq i 32) = true at h
      split at h
      · rename_i g
        obtain ⟨g1, g2⟩ := inR_ok g
        have e : i = 1000 + (i - 1000) := by omega
        rw [e, Pn.vrow _ (by omega), Pn.vrow _ (by omega)]; rfl
      · split at h
        · rename_i g
          obtain ⟨g1, g2⟩ := inR_ok g
          have : i = 22 ∨ i = 23 ∨ i = 24 := by omega
          rcases this with rfl | rfl | rfl
          · rw [Pn.v22, Pn.v22]; rfl
          · rw [Pn.v23, Pn.v23]; rfl
          · rw [Pn.v24, Pn.v24]; rfl
        · split at h
          · rename_i g; rw [beqN g, Pn.v30, Pn.v30]; rfl
          · rw [beqN h, Pn.v32, Pn.v32]; rfl
theorem idle_ints (q : Pn) : ∀ p ∈ idleI, p.1.val q.V = p.2.val q.idle.V := by
  intro p hp
  simp only [idleI, List.mem_cons, List.not_mem_nil, or_false] at hp
  rcases hp with rfl | rfl
  · simp only [SInt.val]; rw [Pn.v21, Pn.v20]; rfl
  · simp only [SInt.val]
    rw [show (5002 : Nat) = 5000 + 2 from rfl, Pn.vL _ (by decide), show (5000 : Nat) = 5000 + 0 from rfl, Pn.vL _ (by decide)]
    rfl
theorem logs_ok {q q' : Pn} {l : List SV} {j : Nat} (hl : l.length / 5 = j) (hL : q'.L = q.L + j) (hE : q'.log = codeL (evsOf q.log ++ evsSV q.V l)) {r i : T Nat} {ints : List (SInt × SInt)} {kp : Nat → Bool} : LogsOk ⟨r, i, ints, kp, [(5000, l, 5000)]⟩ q.V q'.V := by
  intro p hp
  have := List.mem_singleton.1 hp
  subst this
  refine ⟨?_, ?_⟩
  · dsimp only
    rw [show (5000 : Nat) = 5000 + 0 from rfl, Pn.vL _ (by decide), Pn.vL _ (by decide), hL, hl]
    omega
  · show evsOf (q'.V 1005000) = evsOf (q.V 1005000) ++ _
    rw [Pn.vlog, Pn.vlog, hE, evsOf_code]
theorem pb50_obj {P : Program} {ν : Nat → Int} {σ : Sg} {z : Nat} {o : Obj} (h : pb50.Is P ν σ z o) : ∃ C, o = .cells C 415 (0, 0) := by
  rw [pb50_eq] at h
  obtain ⟨C, e, _⟩ := h
  exact ⟨C, e⟩
theorem pb54_obj {P : Program} {ν : Nat → Int} {σ : Sg} {z : Nat} {o : Obj} (h : pb54.Is P ν σ z o) : ∃ C, o = .cells C 415 (0, 0) := by
  rw [pb54_eq] at h
  obtain ⟨C, e, _⟩ := h
  exact ⟨C, e⟩
theorem subI : SubSt h0S hIS := ⟨by rw [h0_next, Nat.eq_of_beq_eq_true nI], fun n b e => by
  rw [hIS_get]
  by_cases g : n = 42
  · subst g; rw [h0_42] at e; cases e
  · rw [if_neg g]; exact e⟩
theorem subF : SubSt h0S xFS := ⟨by rw [h0_next, Nat.eq_of_beq_eq_true nF], fun n b e => by
  rw [xFS_get]
  by_cases g : n = 42
  · subst g; rw [h0_42] at e; cases e
  · by_cases g2 : n = 60
    · subst g2; rw [h0_60] at e; cases e
    · rw [if_neg g, if_neg g2]; exact e⟩
theorem sub0 : SubSt h0S x0S := ⟨by rw [h0_next, Nat.eq_of_beq_eq_true n0], fun n b e => by
  rw [x0S_get]
  by_cases g : n = 42
  · subst g; rw [h0_42] at e; cases e
  · rw [if_neg g]; exact e⟩
theorem lt_of_some {w : World} {b : Nat} {o : Obj} (h : w.heap[b]? = some o) : b < w.heap.size := (Array.getElem?_eq_some_iff.1 h).1
end Go.Ev
set_option maxRecDepth 100000
namespace Go.Ev
open Go Go.Proofs
theorem idle_step {q : Pn} (h : q.Ok) (hn : q.N < q.n) (hi : q.N + 1 < q.P * q.K) {base : Nat} {w0 : World} {act : Act} {w : World} (k : AtP q base w0 act w) {n : Nat} {Q : Exit → Act → World → Prop} (hQ : ∀ act' w', AtP q.idle base w0 act' w' → Q .normal act' w') :
    pdLoop.wpIn Fence.wide n Tryz.prog Q act w := by
  obtain ⟨U, σ, wb, z, C, kU, ks, kr, kk, k60, k42, kwb, kw, kj, kW, kR⟩ := k
  obtain ⟨hE, hI, hS⟩ := sfP_ok (ph := 1) h (rulesP1_ok h hn hi) (base := base)
  obtain ⟨a1, st1, r, i, out, hl, hf⟩ := run1 hS run_idle
  have hs : Sim Tryz.prog (envP 1) q.V base σ hIS w := by
    rw [hIS_eq]; exact simPut1 (Sim.env' (E := EP) (E' := envP 1) rfl ks) k42 kwb kw kW.is50 (fun m c y _ e => kj m c y e)
  refine hl σ w act Fence.wide n Q hs kr rfl (fun σ' w' act' go ha' => hQ act' w' ?_)
  obtain ⟨f1, f2⟩ := finM_ok (P := Tryz.prog) (E := envP 1) (E' := EP) (base := base) (ν := q.V) (ν' := q.idle.V) cellsP ⟨idle_ints q, idle_keep q⟩ (logs_ok (q := q) (q' := q.idle) (l := idleL) (j := 2) (by kernel_rfl) rfl rfl) (zeroP q) rfl (globF rfl) hf
  have s1 := f1 σ' w' go.2
  have fr := fun b hb hu => after_run (b := b) go hf hb hu
  obtain ⟨wb', z', o, e1, e2, e3, e4⟩ := s1.blk 42 pb50 (by rw [hIS_get, if_pos rfl])
  obtain ⟨C', rfl⟩ := pb50_obj e4
  refine settle (q := q.idle) (q2 := q.idle) (U := U) (fun _ _ => rfl) kU (s1.sub subI) (f2 σ' 115 act' ha') (kk.trans (go.kept hs)) e1 e2 e3 (fun n c y g1 g2 => ?_) (fun τ hv hw => (Wheel.of50 e4).to hv hw) (fun τ hτ _ => ⟨fun k b z hk hU => ?_, kR.apart⟩)
  · have g3 := s1.inj n 42 c pb50 wb' y z' (subI.heap n c g1) (by rw [hIS_get, if_pos rfl]) g2 e1
    subst g3
    rw [h0_42] at g1; cases g1
  · obtain ⟨m1, m2, m3, ⟨D, m4, m5⟩, m6⟩ := kR.mem k b z hk hU
    obtain ⟨p1, p2⟩ := fr b (lt_of_some m4) (fun n c y g1 g2 => by
      rw [hIS_get] at g1
      by_cases g : n = 42
      · subst g; rw [k42] at g2; cases g2; exact m3 rfl
      · rw [if_neg g] at g1; exact m6 n c y g1 g2)
    refine ⟨m1, m2, fun e => ?_, ⟨D, by rw [p1]; exact m4, m5⟩, fun n c y g1 g2 => p2 n c y (subI.heap n c g1) (hτ _ _ g2)⟩
    subst e
    exact p2 42 pb50 z' (by rw [hIS_get, if_pos rfl]) e1
end Go.Ev
set_option maxRecDepth 100000
namespace Go.Ev
open Go Go.Proofs
/-! the firing round -/
theorem fire_keep (q : Pn) (l : List SV) : ∀ i, keepP 2 i = true → q.V i = (q.fire1 l).V i := by
  intro i h
  unfold keepP at h
  split at h
  · rename_i g; rw [beqN g, Pn.v10, Pn.v10]; rfl
  · split at h
    · rename_i g; rw [beqN g, Pn.v11, Pn.v11]; rfl
    · change inR 1000 1256 i = true at h
      obtain ⟨g1, g2⟩ := inR_ok h
      have e : i = 1000 + (i - 1000) := by omega
      rw [e, Pn.vrow _ (by omega), Pn.vrow _ (by omega)]; rfl
theorem fire_ints {q : Pn} (l : List SV) : ∀ p ∈ fireI, p.1.val q.V = p.2.val (q.fire1 l).V := by
  intro p hp
  simp only [fireI, List.mem_cons, List.not_mem_nil, or_false] at hp
  rcases hp with rfl | rfl | rfl | rfl | rfl | rfl | rfl | rfl <;> simp only [SInt.val]
  · rw [Pn.v21, Pn.v20]; rfl
  · rw [show (5005 : Nat) = 5000 + 5 from rfl, Pn.vL _ (by decide), show (5000 : Nat) = 5000 + 0 from rfl, Pn.vL _ (by decide)]
    rfl
  · rw [Pn.v31, Pn.v30]; rfl
  · rw [Pn.v30, Pn.v32]; rfl
  · rw [Pn.v23, Pn.v59]; rfl
  · rw [Pn.v25, Pn.v23]; rfl
  · rw [Pn.v26, Pn.v24]; rfl
  · rw [Pn.v27, Pn.v22]; rfl
theorem rows_V (q : Pn) (U : Nat → Option (Nat × Nat)) (hU : q.rows = rowsU U) {k i : Nat} (hk : k < 64) (hi : i < 4) : q.V (1000 + 4 * k + i) = match U k with
    | none => if i = 0 then -1 else if i = 3 then -1 else 0
    | some p => if i = 0 then (p.1 : Int) else if i = 1 then 0 else if i = 2 then (p.2 : Int) else -1 := by
  rw [Nat.add_assoc, Pn.vrow _ (by omega), hU]
  unfold rowsU
  rw [show (4 * k + i) / 4 = k by omega, show (4 * k + i) % 4 = i by omega]
  all_goals (cases U k <;> rfl)
theorem keepR_V (q : Pn) (r : Nat → Int) : ∀ i, keepR i = true → q.V i = ({ q with rows := r } : Pn).V i := by
  intro i h
  have hn : ¬ (1000 ≤ i ∧ i < 1256) := by
    intro g
    have : inR 1000 1256 i = true := by
      unfold inR
      rw [show Nat.ble 1000 i = true from Nat.ble_eq_true_of_le g.1]
      exact Nat.ble_eq_true_of_le g.2
    unfold keepR at h
    rw [this] at h; cases h
  unfold Pn.V
  by_cases h6 : 60 ≤ i
  · rw [if_pos h6, if_pos h6, if_neg hn, if_neg hn]
  · rw [if_neg h6, if_neg h6]
theorem fire_core {q : Pn} (h : q.Ok) (hn : q.N < q.n) (hi : q.N + 1 = q.P * q.K) {base : Nat} {w0 : World} {act : Act} {w : World} {sS : St} {ren : List (Nat × Nat)} {fl : List SV} (hfl : fl.length / 5 = 5) (hrun : isOkB (runCs (sfP 2) 4 [pdLoop] hA sS (finP ren fireI 2 [(5000, fl, 5000)] hA xFS)) = true)
    {σ : Sg} {U : Nat → Option (Nat × Nat)} (kU : q.rows = rowsU U) (hs : Sim Tryz.prog (envP 2) q.V base σ sS w) (kr : RepA q.V σ 115 hA act) (kk : BaseKept base w0 w)
    (hm : ∀ k b z, k < 64 → k ≠ q.P * q.K % 64 → k ≠ q.P * (q.K + 1) % 64 → U k = some (b, z) → base ≤ b ∧ z ≤ maxLen ∧ (∃ C, w.heap[b]? = some (.cells C 3 (0, 0)) ∧ C.size = z * Tryz.prog.cellsOf 3) ∧ ∀ n c y, getT sS.heap n = some c → σ n ≠ some (b, y))
    (ha : ∀ k j b z y, k < 64 → j < 64 → U k = some (b, z) → U j = some (b, y) → k = j)
    {n : Nat} {Q : Exit → Act → World → Prop} (hQ : ∀ U' act' w', AtP (q.fire fl U') base w0 act' w' → Q .normal act' w') : pdLoop.wpIn Fence.wide n Tryz.prog Q act w := by
  obtain ⟨hE, hI, hS⟩ := sfP_ok (ph := 2) h (rulesP2_ok h hn hi) (base := base)
  obtain ⟨a1, st1, r, i, out, hl, hf⟩ := run1 hS hrun
  have hSS : q.P * q.K % 64 ≠ q.P * (q.K + 1) % 64 := by
    have := h.P1; rw [h.D2]; omega
  have hS64 : q.P * q.K % 64 < 64 := Nat.mod_lt _ (by decide)
  refine hl σ w act Fence.wide n Q hs kr rfl (fun σ' w' act' go ha' => ?_)
  obtain ⟨f1, f2⟩ := finM_ok (P := Tryz.prog) (E := envP 2) (E' := EP) (base := base) (ν := q.V) (ν' := (q.fire1 fl).V) cellsP ⟨fire_ints fl, fire_keep q fl⟩ (logs_ok (q := q) (q' := q.fire1 fl) (l := fl) (j := 5) hfl rfl rfl) (zeroP q) rfl (globF rfl) hf
  have s1 := f1 σ' w' go.2
  have fr := fun b hb hu => after_run (b := b) go hf hb hu
  have g42 : getT xFS.heap 42 = some pb54 := by rw [xFS_get, if_pos rfl]
  have g60 : getT xFS.heap 60 = some pb6 := by rw [xFS_get, if_neg (by decide), if_pos rfl]
  obtain ⟨wb', z', o, e1, e2, e3, e4⟩ := s1.blk 42 pb54 g42
  obtain ⟨C', rfl⟩ := pb54_obj e4
  obtain ⟨b6, z6, o6, d1, d2, d3, d4⟩ := s1.blk 60 pb6 g60
  rw [pb6_eq] at d4
  obtain ⟨C6, L6, M6, rfl, _, _, c6, c7⟩ := d4
  have hw6 : b6 ≠ wb' := by
    intro e; subst e
    have := s1.inj 60 42 _ _ b6 z6 z' g60 g42 d1 e1
    omega
  generalize hU' : (fun j => if j = q.P * q.K % 64 then some (b6, z6) else if j = q.P * (q.K + 1) % 64 then none else U j : Nat → Option (Nat × Nat)) = U'
  have uS : U' (q.P * q.K % 64) = some (b6, z6) := by rw [← hU']; exact if_pos rfl
  have uS2 : U' (q.P * (q.K + 1) % 64) = none := by rw [← hU']; dsimp only; rw [if_neg (fun e => hSS e.symm), if_pos rfl]
  have uE : ∀ j, j ≠ q.P * q.K % 64 → j ≠ q.P * (q.K + 1) % 64 → U' j = U j := fun j h1 h2 => by rw [← hU']; dsimp only; rw [if_neg h1, if_neg h2]
  refine hQ U' act' w' ?_
  have hrow : (q.fire fl U').rows = rowsU U' := rfl
  have v59 : (q.fire1 fl).V 59 = ((q.P * q.K % 64 : Nat) : Int) := Pn.v59 _
  have v23 : (q.fire1 fl).V 23 = ((q.P * (q.K + 1) % 64 : Nat) : Int) := Pn.v23 _
  -- what is told of a row that is not met
  have other : ∀ k b z, k < 64 → k ≠ q.P * q.K % 64 → U' k = some (b, z) → base ≤ b ∧ z ≤ maxLen ∧ b ≠ wb' ∧ b ≠ b6 ∧ (∃ C, w'.heap[b]? = some (.cells C 3 (0, 0)) ∧ C.size = z * Tryz.prog.cellsOf 3) ∧ ∀ n c y, getT xFS.heap n = some c → σ'.back ⟨r, i, fireI, keepP 2, [(5000, fl, 5000)]⟩ n ≠ some (b, y) := by
    intro k b z hk hkS hUk
    have hk2 : k ≠ q.P * (q.K + 1) % 64 := fun e => by rw [e, uS2] at hUk; cases hUk
    rw [uE k hkS hk2] at hUk
    obtain ⟨m1, m2, ⟨D, m4, m5⟩, m6⟩ := hm k b z hk hkS hk2 hUk
    obtain ⟨p1, p2⟩ := fr b (lt_of_some m4) m6
    exact ⟨m1, m2, fun e => p2 42 _ z' g42 (by rw [e]; exact e1), fun e => p2 60 _ z6 g60 (by rw [e]; exact d1), ⟨D, by rw [p1]; exact m4, m5⟩, p2⟩
  refine settle (q := q.fire1 fl) (q2 := q.fire fl U') (U := U') (keepR_V _ _) hrow (s1.sub subF) (f2 σ' 115 act' ha') (kk.trans (go.kept hs)) e1 e2 e3 (fun n c y g1 g2 => ?_) (fun τ hv hw => ?_) (fun τ hτ h60 => ⟨fun k b z hk hUk => ?_, fun k j b z y hk hj hUk hUj => ?_⟩)
  · have g3 := s1.inj n 42 c pb54 wb' y z' (subF.heap n c g1) g42 g2 e1
    subst g3
    rw [h0_42] at g1; cases g1
  · refine Wheel.of54 (ν := (q.fire1 fl).V) e4 d1 (by rw [Pn.v23, Pn.v23]; rfl) ?_ (fun k hk h1 h2 i hi => ?_) hv hw
    · rw [v59, Int.toNat_natCast]
      have a0 := rows_V _ U' hrow (i := 0) hS64 (by decide)
      have a1 := rows_V _ U' hrow (i := 1) hS64 (by decide)
      have a2 := rows_V _ U' hrow (i := 2) hS64 (by decide)
      have a3 := rows_V _ U' hrow (i := 3) hS64 (by decide)
      rw [uS] at a0 a1 a2 a3
      rw [Nat.add_zero] at a0
      simp only at a0
      refine ⟨a0, by simpa using a1, by simpa using a2, ?_⟩
      have : (q.fire fl U').V (1000 + 4 * (q.P * q.K % 64) + 3) = -1 := by simpa using a3
      omega
    · rw [v23] at h1; rw [v59] at h2
      rw [rows_V _ U' hrow hk hi, rows_V (q.fire1 fl) U kU hk hi, uE k (by omega) (by omega)]
  · by_cases hkS : k = q.P * q.K % 64
    · subst hkS
      rw [uS] at hUk; cases hUk
      refine ⟨d2, c7, hw6, ⟨C6, d3, c6⟩, fun n c y g1 g2 => ?_⟩
      have g3 := s1.inj n 60 c pb6 b6 y z6 (subF.heap n c g1) g60 (hτ _ _ g2) d1
      subst g3
      rw [h60] at g2; cases g2
    · obtain ⟨m1, m2, m3, _, m4, m5⟩ := other k b z hk hkS hUk
      exact ⟨m1, m2, m3, m4, fun n c y g1 g2 => m5 n c y (subF.heap n c g1) (hτ _ _ g2)⟩
  · by_cases hkS : k = q.P * q.K % 64
    · by_cases hjS : j = q.P * q.K % 64
      · rw [hkS, hjS]
      · subst hkS
        rw [uS] at hUk; cases hUk
        exact absurd rfl (other j _ y hj hjS hUj).2.2.2.1
    · by_cases hjS : j = q.P * q.K % 64
      · subst hjS
        rw [uS] at hUj; cases hUj
        exact absurd rfl (other k _ z hk hkS hUk).2.2.2.1
      · have hk2 : k ≠ q.P * (q.K + 1) % 64 := fun e => by rw [e, uS2] at hUk; cases hUk
        have hj2 : j ≠ q.P * (q.K + 1) % 64 := fun e => by rw [e, uS2] at hUj; cases hUj
        rw [uE k hkS hk2] at hUk
        rw [uE j hjS hj2] at hUj
        exact ha k j b z y hk hj hUk hUj
theorem fire_same : fireNL = fireUL := by kernel_rfl
theorem fire_step {q : Pn} (h : q.Ok) (hn : q.N < q.n) (hi : q.N + 1 = q.P * q.K) {base : Nat} {w0 : World} {act : Act} {w : World} (k : AtP q base w0 act w) {n : Nat} {Q : Exit → Act → World → Prop} (hQ : ∀ U' act' w', AtP (q.fire fireNL U') base w0 act' w' → Q .normal act' w') :
    pdLoop.wpIn Fence.wide n Tryz.prog Q act w := by
  obtain ⟨U, σ, wb, z, C, kU, ks, kr, kk, k60, k42, kwb, kw, kj, kW, kR⟩ := k
  have hSS : q.P * q.K % 64 ≠ q.P * (q.K + 1) % 64 := by
    have := h.P1; rw [h.D2]; omega
  have hS2 : q.P * (q.K + 1) % 64 < 64 := Nat.mod_lt _ (by decide)
  have hne : q.V 25 ≠ q.V 23 := by rw [Pn.v25, Pn.v23]; omega
  have h25 : 0 ≤ q.V 25 ∧ q.V 25 < 64 := by rw [Pn.v25]; omega
  have a0 := rows_V q U kU (i := 0) hS2 (by decide)
  have a1 := rows_V q U kU (i := 1) hS2 (by decide)
  have a2 := rows_V q U kU (i := 2) hS2 (by decide)
  have a3 := rows_V q U kU (i := 3) hS2 (by decide)
  rw [Nat.add_zero] at a0
  cases hu : U (q.P * (q.K + 1) % 64) with
  | none =>
    rw [hu] at a0 a1 a2 a3
    have hs : Sim Tryz.prog (envP 2) q.V base σ hNS w := by
      rw [hNS_eq]
      refine simPut1 (Sim.env' (E := EP) (E' := envP 2) rfl ks) k42 kwb kw (kW.is51 h25 hne ?_) (fun m c y _ e => kj m c y e)
      rw [Pn.v25, Int.toNat_natCast]
      have e0 : q.V (1000 + 4 * (q.P * (q.K + 1) % 64)) = -1 := by simpa using a0
      have e2 : q.V (1000 + 4 * (q.P * (q.K + 1) % 64) + 2) = 0 := by simpa using a2
      omega
    refine fire_core h hn hi (by kernel_rfl) run_fireN kU hs kr kk (fun k b z hk _ _ hUk => ?_) kR.apart hQ
    obtain ⟨m1, m2, m3, m4, m6⟩ := kR.mem k b z hk hUk
    refine ⟨m1, m2, m4, fun n c y g1 g2 => ?_⟩
    rw [hNS_get] at g1
    by_cases g : n = 42
    · subst g; rw [k42] at g2; cases g2; exact m3 rfl
    · rw [if_neg g] at g1; exact m6 n c y g1 g2
  | some p =>
    obtain ⟨b, y⟩ := p
    rw [hu] at a0 a1 a2 a3
    obtain ⟨m1, m2, m3, ⟨D, m4, m5⟩, m6⟩ := kR.mem _ b y hS2 hu
    have hle : σ.le (σ.add 60 (b, y)) := Sg.le_add _ k60
    have ks2 : Sim Tryz.prog (envP 2) q.V base (σ.add 60 (b, y)) h0S w := by
      have nt : ∀ n c, getT h0S.heap n = some c → n ≠ 60 := fun n c e g => by subst g; rw [h0_60] at e; cases e
      refine ⟨fun n hn => ?_, fun n c e => ?_, fun n m c d bl x u g1 g2 s1 s2 => ?_, fun g cs e => ?_, ks.size⟩
      · rw [h0_next] at hn
        rw [Sg.add_ne _ _ (by omega)]; exact ks.fresh n (by rw [h0_next]; exact hn)
      · obtain ⟨bl, x, o, r1, r2, r3, r4⟩ := ks.blk n c e
        exact ⟨bl, x, o, hle _ _ r1, r2, r3, r4.mono hle⟩
      · rw [Sg.add_ne _ _ (nt n c g1)] at s1
        rw [Sg.add_ne _ _ (nt m d g2)] at s2
        exact ks.inj n m c d bl x u g1 g2 s1 s2
      · obtain ⟨r1, X, t, f, r2, r3⟩ := ks.glob g cs e
        exact ⟨r1, X, t, f, r2, r3.mono hle⟩
    have e0 : q.V (1000 + 4 * (q.P * (q.K + 1) % 64)) = (b : Int) := by simpa using a0
    have e1 : q.V (1000 + 4 * (q.P * (q.K + 1) % 64) + 1) = 0 := by simpa using a1
    have e2 : q.V (1000 + 4 * (q.P * (q.K + 1) % 64) + 2) = (y : Int) := by simpa using a2
    have e3 : q.V (1000 + 4 * (q.P * (q.K + 1) % 64) + 3) = -1 := by simpa using a3
    have hs : Sim Tryz.prog (envP 2) q.V base (σ.add 60 (b, y)) hUS w := by
      rw [hUS_eq]
      refine simPut1 (simPut1 ks2 (Sg.add_self _ _ _) m1 m4 (by rw [pb52_eq]; exact ⟨D, [], D.toList, rfl, rfl, RepL.nil, m5, m2⟩) (fun m c x hm e => by rw [Sg.add_ne _ _ hm]; exact m6 m c x e)) (by rw [Sg.add_ne _ _ (by decide)]; exact k42) kwb kw
        ((kW.to (fun V hV => hV.mono hle) (fun _ _ _ _ V hV => hV.mono hle)).is53 h25 hne (Sg.add_self _ _ _) ?_) (fun m c x hm e => ?_)
      · rw [Pn.v25, Int.toNat_natCast]
        exact ⟨e0, e1, e2, by omega⟩
      · rw [(put1_get h0S 60 (some pb52)).2 m] at e
        by_cases g : m = 60
        · subst g; rw [Sg.add_self]; intro q; cases q; exact m3 rfl
        · rw [if_neg g] at e
          rw [Sg.add_ne _ _ g]; exact kj m c x e
    have hrun := run_fireU
    rw [← fire_same] at hrun
    refine fire_core h hn hi (by kernel_rfl) hrun kU hs (kr.mono hle) kk (fun k b2 z2 hk hkS hkS2 hUk => ?_) kR.apart hQ
    obtain ⟨n1, n2, n3, n4, n6⟩ := kR.mem k b2 z2 hk hUk
    refine ⟨n1, n2, n4, fun n c x g1 g2 => ?_⟩
    rw [hUS_get] at g1
    by_cases g : n = 42
    · subst g; rw [Sg.add_ne _ _ (by decide), k42] at g2; cases g2; exact n3 rfl
    · rw [if_neg g] at g1
      by_cases g' : n = 60
      · subst g'
        rw [Sg.add_self] at g2; cases g2
        exact hkS2 (kR.apart k _ _ _ _ hk hS2 hUk hu)
      · rw [if_neg g'] at g1
        rw [Sg.add_ne _ _ g'] at g2
        exact n6 n c x g1 g2
end Go.Ev
set_option maxRecDepth 100000
namespace Go.Ev
open Go Go.Proofs
/-! TopPeriod: the set-up -/
/-- the machine stands at such a state -/
def AtG (ν : Nat → Int) (base : Nat) (w0 : World) (aL : A) (sL : St) (act : Act) (w : World) : Prop :=
  ∃ σ, Sim Tryz.prog EP ν base σ sL w ∧ RepA ν σ 115 aL act ∧ BaseKept base w0 w
theorem AtG.lands {E : Env} (hg : E.glob = glob0f) {ν : Nat → Int} {base : Nat} {w0 : World} {c : Code} {a a1 : A} {st st1 : St} {e : Ex} (h : Lands Tryz.prog E ν base 115 c Option.none a st e a1 st1) {act : Act} {w : World} (k : AtG ν base w0 a st act w) {n : Nat} {Q : Exit → Act → World → Prop}
    (hQ : ∀ act' w', AtG ν base w0 a1 st1 act' w' → Q e.out act' w') : c.wpIn Fence.wide n Tryz.prog Q act w := by
  obtain ⟨σ, h1, h2, h3⟩ := k
  have h1' : Sim Tryz.prog E ν base σ st w := Sim.env' (E := EP) (E' := E) hg h1
  exact h σ w act Fence.wide n Q h1' h2 rfl (fun σ' w' act' go r => hQ act' w' ⟨σ', Sim.env' (E := E) (E' := EP) hg.symm go.2, r, h3.trans (go.kept h1')⟩)
/-- pieces of code, one behind the other -/
def ChainG (E : Env) (ν : Nat → Int) (base : Nat) : List Code → A → St → A → St → Prop
  | [], a, st, a', st' => a = a' ∧ st = st'
  | c :: l, a, st, a', st' => ∃ a1 st1, Lands Tryz.prog E ν base 115 c Option.none a st .normal a1 st1 ∧ ChainG E ν base l a1 st1 a' st'
theorem runCs_chainG {E : Env} {ν : Nat → Int} {base : Nat} {sf : Self} (hS : SelfOk Tryz.prog E ν base sf) : ∀ {cs : List Code} {a : A} {st : St} {k : A → St → R} {out}, runCs sf 4 cs a st k = .ok out →
    ∃ a' st', k a' st' = .ok out ∧ ChainG E ν base cs a st a' st' := by
  intro cs
  induction cs with
  | nil => intro a st k out h; exact ⟨a, st, h, rfl, rfl⟩
  | cons c cs ih =>
    intro a st k out h
    simp only [runCs] at h
    have h0 := hS.code h; clear h; obtain ⟨e, a1, st1, h, F1, hF1, h1⟩ := h0
    rw [Tryz.func4] at hF1; cases hF1
    rw [f4_nt] at h1
    cases e <;> dsimp only at h <;> try (cases h; done)
    obtain ⟨a', st', h2, h3⟩ := ih h
    exact ⟨a', st', h2, a1, st1, h1, h3⟩
theorem ChainG.wp {E : Env} (hg : E.glob = glob0f) {ν : Nat → Int} {base : Nat} {w0 : World} {n : Nat} {Q : Exit → Act → World → Prop} {rest : Code} : ∀ {cs : List Code} {a : A} {st : St} {a' : A} {st' : St}, ChainG E ν base cs a st a' st' →
    ∀ {act : Act} {w : World}, AtG ν base w0 a st act w → (∀ act' w', AtG ν base w0 a' st' act' w' → rest.wpIn Fence.wide n Tryz.prog Q act' w') → (seqL cs rest).wpIn Fence.wide n Tryz.prog Q act w := by
  intro cs
  induction cs with
  | nil =>
    intro a st a' st' h act w k hr
    obtain ⟨rfl, rfl⟩ := h
    exact hr act w k
  | cons c cs ih =>
    intro a st a' st' h act w k hr
    obtain ⟨a1, st1, h1, h2⟩ := h
    exact wpIn_seq (AtG.lands hg h1 k fun act' w' k' => ih h2 k' hr)
theorem ChainG.wp1 {E : Env} (hg : E.glob = glob0f) {ν : Nat → Int} {base : Nat} {w0 : World} {n : Nat} {Q : Exit → Act → World → Prop} {c : Code} {a : A} {st : St} {a' : A} {st' : St} (h : ChainG E ν base [c] a st a' st')
    {act : Act} {w : World} (k : AtG ν base w0 a st act w) (hr : ∀ act' w', AtG ν base w0 a' st' act' w' → Q .normal act' w') : c.wpIn Fence.wide n Tryz.prog Q act w := by
  obtain ⟨a1, st1, h1, rfl, rfl⟩ := h
  exact AtG.lands hg h1 k fun act' w' k' => hr act' w' k'
theorem AtG.fin {ν ν' : Nat → Int} {base : Nat} {w0 w : World} {act : Act} {m : MC} {aL a : A} {sL st : St} {out} (h : finM m szP aL sL a st = .ok out) (hi : IntsOk m ν ν') (hl : LogsOk m ν ν') (hz : ν 0 = 0 ∧ ν (logN 0) = 0) (k : AtG ν base w0 a st act w) : AtG ν' base w0 aL sL act w := by
  obtain ⟨σ, k1, k2, k3⟩ := k
  obtain ⟨f1, f2⟩ := finM_ok (P := Tryz.prog) (E := EP) (E' := EP) (base := base) cellsP hi hl hz rfl globP h
  exact ⟨_, f1 σ w k1, f2 σ 115 act k2, k3⟩
/-- the events of the set-up -/
noncomputable def evs0 : List EvT5 := evsSV (fun _ => 0) setL
theorem evs0_eq (ν : Nat → Int) : evsSV ν setL = evs0 := rfl
/-- the numbers behind the set-up -/
noncomputable def qP (p0 n0 : Int) : Pn where
  p0 := p0
  n0 := n0
  P := (1 + (IntKind.wrap .u64 p0).tmod 62).toNat
  n := ((IntKind.wrap .u64 n0).tmod 200).toNat
  N := 0
  K := 1
  L := 13
  log := codeL evs0
  rows := rowsU fun _ => none
  old := 0
  i2 := 0
  c2 := 0
  log2 := codeL (evs0.drop 13)
theorem wrapU (x : Int) : 0 ≤ IntKind.wrap .u64 x ∧ IntKind.wrap .u64 x < 18446744073709551616 := by
  simp only [IntKind.wrap, IntKind.bits, IntKind.signed, Bool.false_and, Bool.false_eq_true, if_false]
  omega
theorem qP_ok {p0 n0 : Int} (h1 : IntKind.wrap .i64 p0 = p0) (h2 : IntKind.wrap .i64 n0 = n0) : (qP p0 n0).Ok := by
  obtain ⟨a1, a2⟩ := wrapU p0
  obtain ⟨b1, b2⟩ := wrapU n0
  have e1 : (IntKind.wrap .u64 p0).tmod 62 = (IntKind.wrap .u64 p0) % 62 := Int.tmod_eq_emod_of_nonneg a1
  have e2 : (IntKind.wrap .u64 n0).tmod 200 = (IntKind.wrap .u64 n0) % 200 := Int.tmod_eq_emod_of_nonneg b1
  have hP : ((qP p0 n0).P : Int) = 1 + (IntKind.wrap .u64 p0).tmod 62 := by
    show (((1 + (IntKind.wrap .u64 p0).tmod 62).toNat : Nat) : Int) = _
    rw [e1]; omega
  have hn : ((qP p0 n0).n : Int) = (IntKind.wrap .u64 n0).tmod 200 := by
    show ((((IntKind.wrap .u64 n0).tmod 200).toNat : Nat) : Int) = _
    rw [e2]; omega
  have hP1 : 1 ≤ (qP p0 n0).P ∧ (qP p0 n0).P ≤ 62 := by rw [e1] at hP; omega
  have hn1 : (qP p0 n0).n ≤ 199 := by rw [e2] at hn; omega
  refine ⟨⟨h1, h2⟩, hP, hn, hP1, hn1, by show 0 ≤ 199; omega, by show 1 ≤ 1; omega, ?_, by show 13 ≤ 13 ∧ 13 ≤ 3000; omega, by show 0 ≤ 13 - 13 ∧ 0 ≤ 0 + 1; omega⟩
  show 0 < (qP p0 n0).P * 1 ∧ (qP p0 n0).P * 1 ≤ 0 + (qP p0 n0).P
  omega
theorem keep0 (q : Pn) : ∀ i, keepP 0 i = true → q.V i = q.V i := fun _ _ => rfl
theorem set_ints {p0 n0 : Int} (h : (qP p0 n0).Ok) : ∀ p ∈ setI, p.1.val (qP p0 n0).V = p.2.val (qP p0 n0).V := by
  have hP := h.P1
  intro p hp
  simp only [setI, List.mem_cons, List.not_mem_nil, or_false] at hp
  rcases hp with rfl | rfl | rfl | rfl | rfl | rfl <;> simp only [SInt.val]
  · rw [show (5000 : Nat) = 5000 + 0 from rfl, Pn.vL _ (by decide)]; rfl
  · rw [Pn.v20]; rfl
  · rw [Pn.v10, Pn.v22]
    show (((qP p0 n0).P : Nat) : Int) = (((qP p0 n0).P * 1 : Nat) : Int)
    rw [Nat.mul_one]
  · rw [Pn.v10, Pn.v23]
    show (((qP p0 n0).P : Nat) : Int) = (((qP p0 n0).P * 1 % 64 : Nat) : Int)
    rw [Nat.mul_one, Nat.mod_eq_of_lt (by omega)]
  · rw [Pn.v30]; rfl
  · rw [Pn.v32]; rfl
theorem set_logs (p0 n0 : Int) {r i : T Nat} {ints : List (SInt × SInt)} {kp : Nat → Bool} : LogsOk ⟨r, i, ints, kp, [(0, setL, 5000)]⟩ (qP p0 n0).V (qP p0 n0).V := by
  intro p hp
  have := List.mem_singleton.1 hp
  subst this
  refine ⟨?_, ?_⟩
  · have e : setL.length / 5 = 13 := by kernel_rfl
    dsimp only
    rw [show (5000 : Nat) = 5000 + 0 from rfl, Pn.vL _ (by decide), e, (zeroP _).1]; rfl
  · show evsOf ((qP p0 n0).V 1005000) = evsOf ((qP p0 n0).V (logN 0)) ++ evsSV (qP p0 n0).V setL
    rw [Pn.vlog, (zeroP _).2, evsOf_zero, List.nil_append, evs0_eq]
    exact evsOf_code evs0
theorem sfM_ok {q : Pn} (h : q.Ok) (hK : q.K = 1) {base : Nat} : SelfOk Tryz.prog (envP 0) q.V base sfM := by
  obtain ⟨hE, hI, hS⟩ := sfP_ok (ph := 0) h (rulesP0_ok h hK) (base := base)
  exact selfStep_ok hE hI (memoSelf_ok (memoSelf_ok (memoSelf_ok hS (call_lands_of hS run_call2)) (call_lands_of hS run_call1)) (call_lands_of hS run_call0))
theorem pb45_obj {P : Program} {ν : Nat → Int} {σ : Sg} {z : Nat} {o : Obj} (h : pb45.Is P ν σ z o) : ∃ C, o = .cells C 415 (0, 0) := by
  rw [pb45_eq] at h
  obtain ⟨C, e, _⟩ := h
  exact ⟨C, e⟩
/-- behind the set-up the machine stands at the loop's head -/
theorem init_at {p0 n0 : Int} {base : Nat} {w0 w : World} {act : Act} (k : AtG (qP p0 n0).V base w0 hA x0S act w) : AtP (qP p0 n0) base w0 act w := by
  obtain ⟨σ, k1, k2, k3⟩ := k
  have g42 : getT x0S.heap 42 = some pb45 := by rw [x0S_get, if_pos rfl]
  obtain ⟨wb, z, o, e1, e2, e3, e4⟩ := k1.blk 42 pb45 g42
  obtain ⟨C, rfl⟩ := pb45_obj e4
  refine settle (q := qP p0 n0) (q2 := qP p0 n0) (U := fun _ => none) (fun _ _ => rfl) rfl (k1.sub sub0) k2 k3 e1 e2 e3 (fun n c y g1 g2 => ?_) (fun τ hv hw => (Wheel.of45 e4 fun k hk => ?_).to hv hw) (fun τ hτ _ => ⟨fun k b z _ hU => (nomatch hU), fun k j b z y _ _ hU _ => (nomatch hU)⟩)
  · have g3 := k1.inj n 42 c pb45 wb y z (sub0.heap n c g1) g42 g2 e1
    subst g3
    rw [h0_42] at g1; cases g1
  · have a0 := rows_V (qP p0 n0) (fun _ => none) rfl (k := k) (i := 0) hk (by decide)
    have a2 := rows_V (qP p0 n0) (fun _ => none) rfl (k := k) (i := 2) hk (by decide)
    rw [Nat.add_zero] at a0
    have e0 : (qP p0 n0).V (1000 + 4 * k) = -1 := by simpa using a0
    have e2 : (qP p0 n0).V (1000 + 4 * k + 2) = 0 := by simpa using a2
    omega
end Go.Ev
set_option maxRecDepth 100000
namespace Go.Ev
open Go Go.Proofs
/-! TopPeriod: the first loop -/
theorem repA_at {ν : Nat → Int} {σ : Sg} {nt : Nat} {a : A} {act : Act} (k : RepA ν σ nt a act) {t : Nat} (ht : t < nt) {v : SV} (h : (flat a.tmps)[t]? = some v) (hv : v ≠ .dead) : Rep ν σ v (act.eval (.tmp t)) := by
  obtain ⟨s, W, h1, h2, h3⟩ := k.tmps.2 t ht
  rw [h] at h1; cases h1
  rcases h3 with rfl | h3
  · exact absurd rfl hv
  · have : act.eval (.tmp t) = W := by simp [Act.eval, h2]
    rw [this]; exact h3
def softs (l : List EvT5) : List Int := (l.filter fun e => e.2.1 == 1).map fun e => e.1
theorem softs_append (l m : List EvT5) : softs (l ++ m) = softs l ++ softs m := by simp [softs]
def tl (P m : Nat) : List Int := (List.range m).map fun k => ((P * (k + 1) : Nat) : Int)
structure InvP (q : Pn) : Prop where
  ok : q.Ok
  evs : ∃ E, q.log = codeL E ∧ q.log2 = codeL (E.drop 13) ∧ E.length = q.L ∧ softs (E.drop 13) = tl q.P (q.K - 1)
  L : 13 + q.N ≤ q.L ∧ q.L ≤ 13 + 5 * q.N
  i0 : q.i2 = 0 ∧ q.c2 = 0
theorem evs_idle (ν : Nat → Int) : softs (evsSV ν idleL) = [] ∧ (evsSV ν idleL).length = 2 := ⟨rfl, rfl⟩
theorem evs_fire (ν : Nat → Int) : softs (evsSV ν fireNL) = [ν 21] ∧ (evsSV ν fireNL).length = 5 := ⟨rfl, rfl⟩
theorem inv_idle {q : Pn} (h : InvP q) (hn : q.N < q.n) (hi : q.N + 1 < q.P * q.K) : InvP q.idle := by
  obtain ⟨E, e1, e2, e3, e4⟩ := h.evs
  obtain ⟨l1, l2⟩ := h.L
  have n1 := h.ok.n1
  have d := h.ok.due
  refine ⟨⟨h.ok.raw, h.ok.P, h.ok.n, h.ok.P1, h.ok.n1, ?_, h.ok.K, ?_, ?_, ?_⟩, ⟨E ++ evsSV q.V idleL, ?_, ?_, ?_, ?_⟩, ?_, h.i0⟩
  · show q.N + 1 ≤ 199; omega
  · show q.N + 1 < q.P * q.K ∧ q.P * q.K ≤ q.N + 1 + q.P; omega
  · show 13 ≤ q.L + 2 ∧ q.L + 2 ≤ 3000; omega
  · show q.i2 ≤ q.L + 2 - 13 ∧ q.c2 ≤ q.i2 + 1
    have := h.i0; omega
  · show ((codeL (evsOf q.log ++ evsSV q.V idleL) : Nat) : Int) = _
    rw [e1, evsOf_code]
  · show ((codeL ((evsOf q.log ++ evsSV q.V idleL).drop 13) : Nat) : Int) = _
    rw [e1, evsOf_code]
  · rw [List.length_append, e3, (evs_idle q.V).2]; rfl
  · rw [List.drop_append_of_le_length (by omega), softs_append, e4, (evs_idle q.V).1, List.append_nil]; rfl
  · show 13 + (q.N + 1) ≤ q.L + 2 ∧ q.L + 2 ≤ 13 + 5 * (q.N + 1); omega
theorem tl_succ (P m : Nat) : tl P (m + 1) = tl P m ++ [((P * (m + 1) : Nat) : Int)] := by
  unfold tl
  rw [List.range_succ, List.map_append]; rfl
theorem inv_fire {q : Pn} (h : InvP q) (hn : q.N < q.n) (hi : q.N + 1 = q.P * q.K) (U : Nat → Option (Nat × Nat)) : InvP (q.fire fireNL U) := by
  obtain ⟨E, e1, e2, e3, e4⟩ := h.evs
  obtain ⟨l1, l2⟩ := h.L
  have n1 := h.ok.n1
  have P1 := h.ok.P1
  have K1 := h.ok.K
  have d := h.ok.due
  have D2 := h.ok.D2
  refine ⟨⟨h.ok.raw, h.ok.P, h.ok.n, h.ok.P1, h.ok.n1, ?_, ?_, ?_, ?_, ?_⟩, ⟨E ++ evsSV q.V fireNL, ?_, ?_, ?_, ?_⟩, ?_, h.i0⟩
  · show q.N + 1 ≤ 199; omega
  · show 1 ≤ q.K + 1; omega
  · show q.N + 1 < q.P * (q.K + 1) ∧ q.P * (q.K + 1) ≤ q.N + 1 + q.P; omega
  · show 13 ≤ q.L + 5 ∧ q.L + 5 ≤ 3000; omega
  · show q.i2 ≤ q.L + 5 - 13 ∧ q.c2 ≤ q.i2 + 1
    have := h.i0; omega
  · show ((codeL (evsOf q.log ++ evsSV q.V fireNL) : Nat) : Int) = _
    rw [e1, evsOf_code]
  · show ((codeL ((evsOf q.log ++ evsSV q.V fireNL).drop 13) : Nat) : Int) = _
    rw [e1, evsOf_code]
  · rw [List.length_append, e3, (evs_fire q.V).2]; rfl
  · rw [List.drop_append_of_le_length (by omega), softs_append, e4, (evs_fire q.V).1, Pn.v21]
    show tl q.P (q.K - 1) ++ [((q.N + 1 : Nat) : Int)] = tl q.P (q.K + 1 - 1)
    rw [show q.K + 1 - 1 = (q.K - 1) + 1 by omega, tl_succ, hi, show q.K - 1 + 1 = q.K by omega]
  · show 13 + (q.N + 1) ≤ q.L + 5 ∧ q.L + 5 ≤ 13 + 5 * (q.N + 1); omega
theorem inv0 {p0 n0 : Int} (h1 : IntKind.wrap .i64 p0 = p0) (h2 : IntKind.wrap .i64 n0 = n0) : InvP (qP p0 n0) := by
  have e : evs0.length = 13 := by rfl
  refine ⟨qP_ok h1 h2, ⟨evs0, rfl, rfl, by rw [e]; rfl, ?_⟩, by show 13 + 0 ≤ 13 ∧ 13 ≤ 13 + 5 * 0; omega, rfl, rfl⟩
  have e2 : evs0.drop 13 = [] := List.drop_eq_nil_of_le (by omega)
  rw [e2]; rfl
theorem hA_9 : (flat hA.tmps)[9]? = some (.int .i64 (.atom 20)) := by
  have h : flat hA.tmps = flat hA.tmps := rfl
  rfl
def slotP (act : Act) : Nat := match act.eval (.tmp 9) with
  | .int _ x => (200 - x).toNat
  | _ => 0
theorem slotP_at {q : Pn} {base : Nat} {w0 w : World} {act : Act} (k : AtP q base w0 act w) : slotP act = 200 - q.N := by
  obtain ⟨U, σ, wb, z, C, kU, ks, kr, _⟩ := k
  have h := repA_at kr (t := 9) (by omega) hA_9 (by intro e; cases e)
  simp only [Rep, SInt.val] at h
  unfold slotP
  rw [h, Pn.v20]
  show (200 - ((q.N : Nat) : Int)).toNat = 200 - q.N
  omega
theorem AtP.atG {q : Pn} {base : Nat} {w0 w : World} {act : Act} (k : AtP q base w0 act w) : AtG q.V base w0 hA hIS act w := by
  obtain ⟨U, σ, wb, z, C, kU, ks, kr, kk, k60, k42, kwb, kw, kj, kW, kR⟩ := k
  refine ⟨σ, ?_, kr, kk⟩
  rw [hIS_eq]; exact simPut1 ks k42 kwb kw kW.is50 (fun m c y _ e => kj m c y e)
theorem awakeI_ok {E : Env} (hg : E.glob = glob0f) {ν : Nat → Int} {base : Nat} {args : List SV} {st : St} {k : SV → St → R} {fb : Unit → R} {out} (h : awakeI.run args st k fb = .ok out) :
    (∃ v st', k v st' = .ok out ∧ CallLands Tryz.prog E ν base 12 args st v st') ∨ fb () = .ok out := by
  unfold awakeI at h
  dsimp only at h
  split at h
  · exact .inl ⟨_, st, h, awake_lands hg st⟩
  · exact .inr h
theorem sfT_ok {ph : Nat} {q : Pn} (h : q.Ok) (hA : NuA q.V) (hr : ∀ r ∈ rulesP ph, RlOk Tryz.prog q.V r) {base : Nat} : EOk Tryz.prog (envM ph) q.V ∧ SelfOk Tryz.prog (envM ph) q.V base (sfT ph) := by
  have h1 : EOk Tryz.prog (envM ph) q.V := eokP hr (rngs_ok h) (logN_ok h) (convsP_ok q)
  refine ⟨h1, selfN_ok h1 (fun g x hx _ _ _ _ _ hr => ?_) _⟩
  have hx : intrM g = some x := hx
  unfold intrM at hx
  split at hx
  · cases hx; exact awakeI_ok rfl hr
  · cases hx; exact after13I_ok hA hr
  · exact i2g rfl hx hr
theorem nuA {q : Pn} (h : InvP q) (hN : 13 < q.L) : NuA q.V := by
  obtain ⟨E, e1, e2, e3, e4⟩ := h.evs
  have := h.ok.L
  refine ⟨⟨q.L, ?_, hN, by omega, Pn.v6000 q⟩, ?_⟩
  · rw [show (5000 : Nat) = 5000 + 0 from rfl, Pn.vL _ (by decide)]; rfl
  · show evsOf (q.V 1006000) = (evsOf (q.V 1005000)).drop 13
    rw [Pn.vlog2, Pn.vlog, e2, e1, evsOf_code, evsOf_code]
end Go.Ev
set_option maxRecDepth 100000
namespace Go.Ev
open Go Go.Proofs
/-! TopPeriod: the second loop's regions that look at an event -/
theorem op_step {P : Program} {o : Oper} {act : Act} {w w' : World} {V : Value} {F : Fence} {n : Nat} {K : Act → World → Prop} {Q : Exit → Act → World → Prop} (hF : OkF F) (hd : ∀ c, o.op ≠ .defer c) (h : (execOp act.eval o).run P w = .ok (.value V) w') (hK : K (act.put o.dst V) w') : o.wpIn F n P act w K Q := by
  refine ⟨fun f _ => hF.fn f, ?_⟩
  rw [Oper.semAt_eq _ _ _ hd, h]
  exact hK
theorem list_step {P : Program} {ops : Array Oper} {rest : List Oper} {o : Oper} {act : Act} {w w' : World} {V : Value} {F : Fence} {n : Nat} {Q : Exit → Act → World → Prop} (hF : OkF F) (hg : o.guard = none) (hd : ∀ c, o.op ≠ .defer c) (h : (execOp act.eval o).run P w = .ok (.value V) w') (hK : wpListIn F n P ops Q rest (act.put o.dst V) w') : wpListIn F n P ops Q (o :: rest) act w := by
  simp only [wpListIn, hg, Region.wanted, if_true]
  exact op_step hF hd h hK
theorem put_at (act : Act) (t : Nat) (V : Value) (h : t < act.tmps.size) : (act.put (some t) V).eval (.tmp t) = V := by
  simp [Act.put, Act.eval, h]
theorem put_ne (act : Act) (t u : Nat) (V : Value) (h : t ≠ u) : (act.put (some t) V).eval (.tmp u) = act.eval (.tmp u) := by
  simp [Act.put, Act.eval, Array.getElem?_setIfInBounds_ne h]
theorem put_size (act : Act) (t : Nat) (V : Value) : (act.put (some t) V).tmps.size = act.tmps.size := by
  simp [Act.put]
theorem RepA.dead {ν : Nat → Int} {σ : Sg} {nt : Nat} {a : A} {act : Act} (k : RepA ν σ nt a act) {t : Nat} (h : (flat a.tmps)[t]? = some .dead) (V : Value) : RepA ν σ nt a (act.put (some t) V) := by
  refine ⟨⟨by rw [put_size]; exact k.tmps.1, fun u hu => ?_⟩, k.defers⟩
  obtain ⟨s, W, h1, h2, h3⟩ := k.tmps.2 u hu
  by_cases e : t = u
  · subst e
    have hl : t < act.tmps.size := by rw [k.tmps.1]; exact hu
    exact ⟨s, V, h1, by simp [Act.put, hl], .inl (by rw [h] at h1; exact (Option.some.inj h1).symm)⟩
  · exact ⟨s, W, h1, by simp [Act.put, Array.getElem?_setIfInBounds_ne e, h2], h3⟩

noncomputable def opsP : Code → List Oper
  | .region _ ops _ => ops.toList
  | _ => []
noncomputable def pd18 : Code := hdP pdB3
noncomputable def pd20 : Code := hdP (tlP pdX)
noncomputable def o18 (j : Nat) : Oper := ((opsP pd18)[j]?).getD default
noncomputable def o20 (j : Nat) : Oper := ((opsP pd20)[j]?).getD default
theorem pd18_eq : pd18 = .region 18 [o18 0, o18 1, o18 2, o18 3, o18 4, o18 5].toArray false := by kernel_rfl
theorem pd20_eq : pd20 = .region 20 [o20 0, o20 1, o20 2, o20 3, o20 4, o20 5, o20 6, o20 7, o20 8, o20 9].toArray false := by kernel_rfl
def opIs (o : Oper) (op : Op) (t : Tmp) : Prop := o.op = op ∧ o.guard = Option.none ∧ o.dst = some t
theorem o18_0 : opIs (o18 0) (.move (.tmp 11)) 89 := ⟨by kernel_rfl, by kernel_rfl, by kernel_rfl⟩
theorem o18_1 : opIs (o18 1) (.move (.tmp 12)) 90 := ⟨by kernel_rfl, by kernel_rfl, by kernel_rfl⟩
theorem o18_2 : opIs (o18 2) (.indexAddr 29 (.tmp 89) (.tmp 90)) 91 := ⟨by kernel_rfl, by kernel_rfl, by kernel_rfl⟩
theorem o18_3 : opIs (o18 3) (.fieldAddr 34 (.tmp 91) 1) 92 := ⟨by kernel_rfl, by kernel_rfl, by kernel_rfl⟩
theorem o18_4 : opIs (o18 4) (.load 3 (.tmp 92)) 93 := ⟨by kernel_rfl, by kernel_rfl, by kernel_rfl⟩
theorem o20_0 : opIs (o20 0) (.move (.tmp 11)) 97 := ⟨by kernel_rfl, by kernel_rfl, by kernel_rfl⟩
theorem o20_1 : opIs (o20 1) (.move (.tmp 12)) 98 := ⟨by kernel_rfl, by kernel_rfl, by kernel_rfl⟩
theorem o20_2 : opIs (o20 2) (.indexAddr 29 (.tmp 97) (.tmp 98)) 99 := ⟨by kernel_rfl, by kernel_rfl, by kernel_rfl⟩
theorem o20_3 : opIs (o20 3) (.fieldAddr 34 (.tmp 99) 0) 100 := ⟨by kernel_rfl, by kernel_rfl, by kernel_rfl⟩
theorem o20_4 : opIs (o20 4) (.load 25 (.tmp 100)) 101 := ⟨by kernel_rfl, by kernel_rfl, by kernel_rfl⟩
theorem o20_5 : opIs (o20 5) (.move (.tmp 10)) 102 := ⟨by kernel_rfl, by kernel_rfl, by kernel_rfl⟩
theorem o20_6 : opIs (o20 6) (.move (.tmp 0)) 103 := ⟨by kernel_rfl, by kernel_rfl, by kernel_rfl⟩
theorem o20_8 : opIs (o20 8) (.convert 3 25 (.tmp 104)) 105 := ⟨by kernel_rfl, by kernel_rfl, by kernel_rfl⟩
theorem o18_5 : ∃ y, opIs (o18 5) (.binOp .eql 3 (.tmp 93) (.const (.int .i64 1)) y) 94 := ⟨3, by kernel_rfl, by kernel_rfl, by kernel_rfl⟩
theorem o20_7 : ∃ y, opIs (o20 7) (.binOp .mul 3 (.tmp 102) (.tmp 103) y) 104 := ⟨3, by kernel_rfl, by kernel_rfl, by kernel_rfl⟩
theorem o20_9 : ∃ y, opIs (o20 9) (.binOp .neq 25 (.tmp 101) (.tmp 105) y) 106 := ⟨25, by kernel_rfl, by kernel_rfl, by kernel_rfl⟩
def chkTy (o : Option TyI) (n : Nat) (b : Bool) : Bool := match o with
  | some i => match Nat.beq i.size n with
    | true => match b with
      | true => i.agg
      | false => match i.agg with
        | true => false
        | false => true
    | false => false
  | Option.none => false
theorem chkTy_ok {o : Option TyI} {n : Nat} {b : Bool} (h : chkTy o n b = true) : ∃ i, o = some i ∧ i.size = n ∧ i.agg = b := by
  unfold chkTy at h
  split at h
  · rename_i i
    split at h
    · rename_i g
      refine ⟨i, rfl, Nat.eq_of_beq_eq_true g, ?_⟩
      cases b
      · dsimp only at h
        split at h
        · cases h
        · rename_i g2; exact g2
      · exact h
    · cases h
  · cases h
theorem ty34 : ∃ i, getT tyT 34 = some i ∧ i.size = 5 ∧ i.agg = true := chkTy_ok (by kernel_rfl)
theorem ty3 : ∃ i, getT tyT 3 = some i ∧ i.size = 1 ∧ i.agg = false := chkTy_ok (by kernel_rfl)
theorem ty25 : ∃ i, getT tyT 25 = some i ∧ i.size = 1 ∧ i.agg = false := chkTy_ok (by kernel_rfl)
def chkF (o : Option TypeDesc) (f off t : Nat) : Bool := match o with
  | some (.struct fs) => match fs[f]? with
    | some d => match Nat.beq d.offset off with
      | true => Nat.beq d.type t
      | false => false
    | Option.none => false
  | _ => false
theorem chkF_ok {o : Option TypeDesc} {f off t : Nat} (h : chkF o f off t = true) : ∃ fs d, o = some (.struct fs) ∧ fs[f]? = some d ∧ d.offset = off ∧ d.type = t := by
  unfold chkF at h
  split at h
  · rename_i fs
    split at h
    · rename_i d hd
      split at h
      · rename_i g; exact ⟨fs, d, rfl, hd, Nat.eq_of_beq_eq_true g, Nat.eq_of_beq_eq_true h⟩
      · cases h
    · cases h
  · cases h
theorem fld1 : ∃ fs d, Tryz.prog.underlying 34 = some (.struct fs) ∧ fs[1]? = some d ∧ d.offset = 1 ∧ d.type = 3 := chkF_ok (by kernel_rfl)
theorem fld0 : ∃ fs d, Tryz.prog.underlying 34 = some (.struct fs) ∧ fs[0]? = some d ∧ d.offset = 0 ∧ d.type = 25 := chkF_ok (by kernel_rfl)
/-- an event's field is read: five operations -/
theorem readF {E : Env} (hty : E.ty = tyT) {ν : Nat → Int} (hE : EOk Tryz.prog E ν) {F : Fence} (hF : OkF F) {n : Nat} {ops : Array Oper} {oa ob oc od oe : Oper} {rest : List Oper} {ta f off t : Nat}
    (h0 : opIs oa (.move (.tmp 11)) ta) (h1 : opIs ob (.move (.tmp 12)) (ta + 1)) (h2 : opIs oc (.indexAddr 29 (.tmp ta) (.tmp (ta + 1))) (ta + 2)) (h3 : opIs od (.fieldAddr 34 (.tmp (ta + 2)) f) (ta + 3)) (h4 : opIs oe (.load t (.tmp (ta + 3))) (ta + 4))
    (hfl : ∃ fs d, Tryz.prog.underlying 34 = some (.struct fs) ∧ fs[f]? = some d ∧ d.offset = off ∧ d.type = t) (ht : ∃ i, getT tyT t = some i ∧ i.size = 1 ∧ i.agg = false)
    {act : Act} {w : World} {b l c i : Nat} {V : Value} (hn : act.tmps.size = 115) (h15 : 13 < ta) (h115 : ta + 4 < 115) (e11 : act.eval (.tmp 11) = .slice (some ⟨b, 0, none⟩) l c) (e12 : act.eval (.tmp 12) = .int .i64 (i : Int)) (hi : i < l)
    (hc : w.cell? ⟨b, i * 5 + off, none⟩ = some V) {Q : Exit → Act → World → Prop}
    (hQ : ∀ V0 V1 V2 V3, wpListIn F n Tryz.prog ops Q rest (((((act.put (some ta) V0).put (some (ta + 1)) V1).put (some (ta + 2)) V2).put (some (ta + 3)) V3).put (some (ta + 4)) V) w) : wpListIn F n Tryz.prog ops Q (oa :: ob :: oc :: od :: oe :: rest) act w := by
  have hu : Tryz.prog.underlying 29 = some (.slice 34) := by kernel_rfl
  obtain ⟨i34, h34, s34, a34⟩ := ty34
  rw [← hty] at h34
  obtain ⟨it, hit, st, at'⟩ := ht
  rw [← hty] at hit
  obtain ⟨fs, fd, hu34, hf, hfo, hft⟩ := hfl
  have hit' : getT E.ty fd.type = some it := by rw [hft]; exact hit
  refine list_step (w' := w) hF h0.2.1 (fun c e => by rw [h0.1] at e; cases e) (V := act.eval (.tmp 11)) (by simp [execOp, h0.1]) ?_
  rw [h0.2.2]
  refine list_step (w' := w) hF h1.2.1 (fun c e => by rw [h1.1] at e; cases e) (V := act.eval (.tmp 12)) (by simp [execOp, h1.1, put_ne _ _ _ _ (show ta ≠ 12 by omega)]) ?_
  rw [h1.2.2]
  refine list_step (w' := w) hF h2.2.1 (fun c e => by rw [h2.1] at e; cases e) (V := .pointer (some ⟨b, i * 5, none⟩)) ?_ ?_
  · have q1 : ((act.put (some ta) (act.eval (.tmp 11))).put (some (ta + 1)) (act.eval (.tmp 12))).eval (.tmp ta) = .slice (some ⟨b, 0, none⟩) l c := by
      rw [put_ne _ _ _ _ (by omega), put_at _ _ _ (by omega), e11]
    have q2 : ((act.put (some ta) (act.eval (.tmp 11))).put (some (ta + 1)) (act.eval (.tmp 12))).eval (.tmp (ta + 1)) = .int .i64 (i : Int) := by
      rw [put_at _ _ _ (by rw [put_size]; omega), e12]
    have q3 : (Instr.indexAt 29 (.slice (some ⟨b, 0, none⟩) l c) (.int .i64 (i : Int))).run Tryz.prog w = .ok (.pointer (some ⟨b, i * 5, none⟩)) w := by
      simp [Instr.indexAt, asIntOf, run_underlying hu, hE.size h34, s34, hi, Addr.add_eq]
    simp [execOp, h2.1, q1, q2, q3]
  rw [h2.2.2]
  refine list_step (w' := w) hF h3.2.1 (fun c e => by rw [h3.1] at e; cases e) (V := .pointer (some ⟨b, i * 5 + off, none⟩)) ?_ ?_
  · have q1 : (((act.put (some ta) (act.eval (.tmp 11))).put (some (ta + 1)) (act.eval (.tmp 12))).put (some (ta + 2)) (.pointer (some ⟨b, i * 5, none⟩))).eval (.tmp (ta + 2)) = .pointer (some ⟨b, i * 5, none⟩) := by
      rw [put_at _ _ _ (by rw [put_size, put_size]; omega)]
    have hne : it.size ≠ 0 := by omega
    simp [execOp, h3.1, q1, Instr.fieldAt, run_underlying hu34, hf, Instr.sureAddr, fieldPlace, hE.size hit', hne, Addr.add_eq, hfo]
  rw [h3.2.2]
  refine list_step (w' := w) hF h4.2.1 (fun c e => by rw [h4.1] at e; cases e) (V := V) ?_ ?_
  · have q1 : ((((act.put (some ta) (act.eval (.tmp 11))).put (some (ta + 1)) (act.eval (.tmp 12))).put (some (ta + 2)) (.pointer (some ⟨b, i * 5, none⟩))).put (some (ta + 3)) (.pointer (some ⟨b, i * 5 + off, none⟩))).eval (.tmp (ta + 3)) = .pointer (some ⟨b, i * 5 + off, none⟩) := by
      rw [put_at _ _ _ (by rw [put_size, put_size, put_size]; omega)]
    have hlv : (loadVar t ⟨b, i * 5 + off, none⟩).run Tryz.prog w = .ok V w := by simp [loadVar, hE.isAgg hit, at', hc]
    simp [execOp, h4.1, q1, Instr.loadAt, Instr.sureAddr, hlv]
  rw [h4.2.2]
  exact hQ _ _ _ _
/-- is it a beginning? -/
theorem reg18P {E : Env} (hty : E.ty = tyT) {ν : Nat → Int} (hE : EOk Tryz.prog E ν) {n : Nat} {act : Act} {w : World} {b l c i : Nat} {kd : Int} (hn : act.tmps.size = 115) (e11 : act.eval (.tmp 11) = .slice (some ⟨b, 0, none⟩) l c) (e12 : act.eval (.tmp 12) = .int .i64 (i : Int)) (hi : i < l)
    (hc : w.cell? ⟨b, i * 5 + 1, none⟩ = some (.int .i64 kd)) {Q : Exit → Act → World → Prop}
    (hQ : ∀ V0 V1 V2 V3 V4, Q .normal ((((((act.put (some 89) V0).put (some 90) V1).put (some 91) V2).put (some 92) V3).put (some 93) V4).put (some 94) (.bool (decide (kd = 1)))) w) : pd18.wpIn Fence.wide n Tryz.prog Q act w := by
  obtain ⟨y, h5⟩ := o18_5
  rw [pd18_eq]
  refine wpIn_region_lit ?_
  refine readF hty hE (.inl rfl) (ta := 89) o18_0 o18_1 o18_2 o18_3 o18_4 fld1 ty3 hn (by decide) (by decide) e11 e12 hi hc (fun V0 V1 V2 V3 => ?_)
  refine list_step (w' := w) (.inl rfl) h5.2.1 (fun c e => by rw [h5.1] at e; cases e) (V := .bool (decide (kd = 1))) ?_ ?_
  · have q1 : (((((act.put (some 89) V0).put (some 90) V1).put (some 91) V2).put (some 92) V3).put (some 93) (.int .i64 kd)).eval (.tmp 93) = .int .i64 kd := by
      rw [put_at _ _ _ (by rw [put_size, put_size, put_size, put_size]; omega)]
    obtain ⟨V, r1, r2⟩ := symEql (P := Tryz.prog) (ν := ν) (k := .i64) (a := kd) (b := 1) (t := decide (kd = 1)) rfl
    have r2 := r2 (fun _ => none)
    simp only [Rep] at r2
    subst r2
    have r1' : (binOp .eql 3 (.int .i64 kd) (.int .i64 1)).run Tryz.prog w = .ok (.bool (decide (kd = 1))) w := r1 w
    have q2 : ∀ a : Act, a.eval (.const (.int .i64 1)) = .int .i64 1 := fun a => rfl
    simp [execOp, h5.1, q1, q2, eqGuard_int, r1']
  rw [h5.2.2]
  simp only [wpListIn]
  exact hQ _ _ _ _ _
/-- its tick is the one that it should be -/
theorem reg20P {E : Env} (hty : E.ty = tyT) {ν : Nat → Int} (hE : EOk Tryz.prog E ν) {n : Nat} {act : Act} {w : World} {b l c i : Nat} {m p : Nat} (hn : act.tmps.size = 115) (e11 : act.eval (.tmp 11) = .slice (some ⟨b, 0, none⟩) l c) (e12 : act.eval (.tmp 12) = .int .i64 (i : Int)) (hi : i < l)
    (e10 : act.eval (.tmp 10) = .int .i64 (m : Int)) (e0 : act.eval (.tmp 0) = .int .i64 (p : Int)) (hmp : m * p ≤ 1000000)
    (hc : w.cell? ⟨b, i * 5 + 0, none⟩ = some (.int .u64 ((m * p : Nat) : Int))) {Q : Exit → Act → World → Prop}
    (hQ : ∀ V0 V1 V2 V3 V4 V5 V6 V7 V8, Q .normal ((((((((((act.put (some 97) V0).put (some 98) V1).put (some 99) V2).put (some 100) V3).put (some 101) V4).put (some 102) V5).put (some 103) V6).put (some 104) V7).put (some 105) V8).put (some 106) (.bool false)) w) : pd20.wpIn Fence.wide n Tryz.prog Q act w := by
  obtain ⟨y7, h7⟩ := o20_7
  obtain ⟨y9, h9⟩ := o20_9
  have h5 := o20_5
  have h6 := o20_6
  have h8 := o20_8
  obtain ⟨i3, hi3, _, _⟩ := ty3
  obtain ⟨i25, hi25, _, _⟩ := ty25
  rw [pd20_eq]
  refine wpIn_region_lit ?_
  refine readF hty hE (.inl rfl) (ta := 97) o20_0 o20_1 o20_2 o20_3 o20_4 fld0 ty25 hn (by decide) (by decide) e11 e12 hi hc (fun V0 V1 V2 V3 => ?_)
  generalize hA : (((((act.put (some 97) V0).put (some 98) V1).put (some 99) V2).put (some 100) V3).put (some 101) (.int .u64 ((m * p : Nat) : Int))) = A1
  have s1 : A1.tmps.size = 115 := by rw [← hA]; simp only [put_size]; exact hn
  have a101 : A1.eval (.tmp 101) = .int .u64 ((m * p : Nat) : Int) := by rw [← hA, put_at _ _ _ (by simp only [put_size]; omega)]
  have a10 : A1.eval (.tmp 10) = .int .i64 (m : Int) := by
    rw [← hA, put_ne _ _ _ _ (by decide), put_ne _ _ _ _ (by decide), put_ne _ _ _ _ (by decide), put_ne _ _ _ _ (by decide), put_ne _ _ _ _ (by decide), e10]
  have a0 : A1.eval (.tmp 0) = .int .i64 (p : Int) := by
    rw [← hA, put_ne _ _ _ _ (by decide), put_ne _ _ _ _ (by decide), put_ne _ _ _ _ (by decide), put_ne _ _ _ _ (by decide), put_ne _ _ _ _ (by decide), e0]
  refine list_step (w' := w) (.inl rfl) h5.2.1 (fun c e => by rw [h5.1] at e; cases e) (V := .int .i64 (m : Int)) (by simp [execOp, h5.1, a10]) ?_
  rw [h5.2.2]
  refine list_step (w' := w) (.inl rfl) h6.2.1 (fun c e => by rw [h6.1] at e; cases e) (V := .int .i64 (p : Int)) (by simp [execOp, h6.1, put_ne _ _ _ _ (show 102 ≠ 0 by decide), a0]) ?_
  rw [h6.2.2]
  refine list_step (w' := w) (.inl rfl) h7.2.1 (fun c e => by rw [h7.1] at e; cases e) (V := .int .i64 ((m * p : Nat) : Int)) ?_ ?_
  · have q1 : ((A1.put (some 102) (.int .i64 (m : Int))).put (some 103) (.int .i64 (p : Int))).eval (.tmp 102) = .int .i64 (m : Int) := by rw [put_ne _ _ _ _ (by decide), put_at _ _ _ (by omega)]
    have q2 : ((A1.put (some 102) (.int .i64 (m : Int))).put (some 103) (.int .i64 (p : Int))).eval (.tmp 103) = .int .i64 (p : Int) := by rw [put_at _ _ _ (by rw [put_size]; omega)]
    obtain ⟨V, r1, r2⟩ := symMul (P := Tryz.prog) (ν := ν) (k := .i64) (a := (m : Int)) (b := (p : Int)) (s := .lit ((m * p : Nat) : Int)) (by
      simp only [SInt.val]
      rw [wrap_i (by rw [← Int.natCast_mul]; omega) (by rw [← Int.natCast_mul]; omega), Int.natCast_mul])
    have r2 := r2 (fun _ => none)
    simp only [Rep, SInt.val] at r2
    subst r2
    have r1' : (binOp .mul 3 (.int .i64 (m : Int)) (.int .i64 (p : Int))).run Tryz.prog w = .ok (.int .i64 ((m * p : Nat) : Int)) w := r1 w
    generalize ((m * p : Nat) : Int) = x at r1' ⊢
    simp [execOp, h7.1, q1, q2, eqGuard_int, r1']
  rw [h7.2.2]
  refine list_step (w' := w) (.inl rfl) h8.2.1 (fun c e => by rw [h8.1] at e; cases e) (V := .int .u64 ((m * p : Nat) : Int)) ?_ ?_
  · have q1 : (((A1.put (some 102) (.int .i64 (m : Int))).put (some 103) (.int .i64 (p : Int))).put (some 104) (.int .i64 ((m * p : Nat) : Int))).eval (.tmp 104) = .int .i64 ((m * p : Nat) : Int) := by rw [put_at _ _ _ (by rw [put_size, put_size]; omega)]
    have hu3 : Tryz.prog.underlying 3 = some (.int .i64) := by kernel_rfl
    have hu25 : Tryz.prog.underlying 25 = some (.int .u64) := by kernel_rfl
    have hcv : (convert 3 25 (.int .i64 ((m * p : Nat) : Int))).run Tryz.prog w = .ok (.int .u64 ((m * p : Nat) : Int)) w := by
      have hw := wrap_u (n := ((m * p : Nat) : Int)) (by omega) (by omega)
      generalize ((m * p : Nat) : Int) = x at hw ⊢
      simp [convert, run_underlying hu3, run_underlying hu25, Conv.intToInt, hw]
    generalize ((m * p : Nat) : Int) = x at hcv q1 ⊢
    simp [execOp, h8.1, q1, hcv]
  rw [h8.2.2]
  refine list_step (w' := w) (.inl rfl) h9.2.1 (fun c e => by rw [h9.1] at e; cases e) (V := .bool false) ?_ ?_
  · have q1 : ((((A1.put (some 102) (.int .i64 (m : Int))).put (some 103) (.int .i64 (p : Int))).put (some 104) (.int .i64 ((m * p : Nat) : Int))).put (some 105) (.int .u64 ((m * p : Nat) : Int))).eval (.tmp 101) = .int .u64 ((m * p : Nat) : Int) := by
      rw [put_ne _ _ _ _ (by decide), put_ne _ _ _ _ (by decide), put_ne _ _ _ _ (by decide), put_ne _ _ _ _ (by decide), a101]
    have q2 : ((((A1.put (some 102) (.int .i64 (m : Int))).put (some 103) (.int .i64 (p : Int))).put (some 104) (.int .i64 ((m * p : Nat) : Int))).put (some 105) (.int .u64 ((m * p : Nat) : Int))).eval (.tmp 105) = .int .u64 ((m * p : Nat) : Int) := by
      rw [put_at _ _ _ (by simp only [put_size]; omega)]
    generalize ((m * p : Nat) : Int) = x at q1 q2 ⊢
    obtain ⟨V, r1, r2⟩ := symNeq (P := Tryz.prog) (ν := ν) (k := .u64) (a := x) (b := x) (t := false) (by simp)
    have r2 := r2 (fun _ => none)
    simp only [Rep] at r2
    subst r2
    have r1' : (binOp .neq 25 (.int .u64 x) (.int .u64 x)).run Tryz.prog w = .ok (.bool false) w := r1 w
    simp [execOp, h9.1, q1, q2, eqGuard_int, r1']
  rw [h9.2.2]
  simp only [wpListIn]
  rw [← hA]
  exact hQ _ _ _ _ _ _ _ _ _
end Go.Ev
set_option maxRecDepth 100000
namespace Go.Ev
open Go Go.Proofs
/-! TopPeriod: from the loop's head to the end -/
theorem codeX {E : Env} {ν : Nat → Int} {base : Nat} {sf : Self} (hS : SelfOk Tryz.prog E ν base sf) {c : Code} {a : A} {st : St} {k : Ex → A → St → R} {out} (h : sf.code 4 c Option.none a st k = .ok out) :
    ∃ e a1 st1, k e a1 st1 = .ok out ∧ Lands Tryz.prog E ν base 115 c Option.none a st e a1 st1 := by
  have h0 := hS.code h; clear h; obtain ⟨e, a1, st1, h, F1, hF1, h1⟩ := h0
  rw [Tryz.func4] at hF1; cases hF1
  rw [f4_nt] at h1
  exact ⟨e, a1, st1, h, h1⟩
theorem finT2_M {ren : List (Nat × Nat)} {ints : List (SInt × SInt)} {l : List Nat} {a : A} {st : St} {out} (h : finT2 ren ints l a st = .ok out) : ∃ r i, finM ⟨r, i, ints, keepT l, [(6000, [], 6000)]⟩ szP m2A m2S a st = .ok out := by
  unfold finT2 at h
  obtain ⟨r, h1, _⟩ := mkT'_mem ren .leaf (fun r => mkT' (swapP ren) .leaf fun i => finM ⟨r, i, ints, keepT l, [(6000, [], 6000)]⟩ szP m2A m2S a st)
  rw [h1] at h
  obtain ⟨i, h2, _⟩ := mkT'_mem (swapP ren) .leaf (fun i => finM ⟨r, i, ints, keepT l, [(6000, [], 6000)]⟩ szP m2A m2S a st)
  rw [h2] at h
  exact ⟨r, i, h⟩
theorem envM_glob (ph : Nat) : (envM ph).glob = glob0f := rfl
/-- numbers of the second loop alone are others -/
def Pn.at2 (q : Pn) (i c : Nat) : Pn := { q with i2 := i, c2 := c }
theorem keepT_at2 {q : Pn} {i c : Nat} {l : List Nat} (hl : ∀ x ∈ l, x = 10 ∨ x = 11 ∨ x = 6000 ∨ (x = 7 ∧ q.i2 = i) ∨ (x = 8 ∧ q.c2 = c)) : ∀ x, keepT l x = true → q.V x = (q.at2 i c).V x := by
  intro x h
  have hm : x ∈ l := by
    unfold keepT at h
    clear hl
    induction l with
    | nil => cases h
    | cons a l ih =>
      simp only [memN] at h
      split at h
      · rename_i g; rw [Nat.eq_of_beq_eq_true g]; exact .head _
      · exact .tail _ (ih h)
  rcases hl x hm with rfl | rfl | rfl | ⟨rfl, e⟩ | ⟨rfl, e⟩
  · rw [Pn.v10, Pn.v10]; rfl
  · rw [Pn.v11, Pn.v11]; rfl
  · rw [Pn.v6000, Pn.v6000]; rfl
  · rw [Pn.v7, Pn.v7]; show (q.i2 : Int) = (i : Int); rw [e]
  · rw [Pn.v8, Pn.v8]; show (q.c2 : Int) = (c : Int); rw [e]
theorem logs_at2 (q : Pn) (i c : Nat) {r j : T Nat} {ints : List (SInt × SInt)} {kp : Nat → Bool} : LogsOk ⟨r, j, ints, kp, [(6000, [], 6000)]⟩ q.V (q.at2 i c).V := by
  intro p hp
  have := List.mem_singleton.1 hp
  subst this
  refine ⟨?_, ?_⟩
  · show (q.at2 i c).V 6000 = q.V 6000 + ((0 / 5 : Nat) : Int)
    rw [Pn.v6000, Pn.v6000]; show ((q.L - 13 : Nat) : Int) = _; omega
  · show evsOf ((q.at2 i c).V 1006000) = evsOf (q.V 1006000) ++ []
    rw [Pn.vlog2, Pn.vlog2, List.append_nil]; rfl
theorem exit1 {q : Pn} (h : InvP q) (hL : 13 < q.L) (hn : q.n ≤ q.N) (base : Nat) : ∃ a1 s1 a2 s2, Lands Tryz.prog (envM 3) q.V base 115 pdLoop Option.none hA hIS (.exit 0) a1 s1 ∧ ChainG (envM 3) q.V base [pdAt 8, pdAt 9, hdP (pdAt 10)] a1 s1 a2 s2 ∧
    ∀ w0 act w, AtG q.V base w0 a2 s2 act w → AtG q.V base w0 m2A m2S act w := by
  have hS := (sfT_ok (ph := 3) h.ok (nuA h hL) (rulesP3_ok h.ok hn) (base := base)).2
  have h0 := run_E1
  unfold okE1 at h0
  generalize sfT 3 = sf at hS h0
  obtain ⟨out, ho⟩ := isOkB_ok h0
  obtain ⟨e, a1, s1, h1, hl⟩ := codeX hS ho
  cases e <;> dsimp only at h1 <;> try (cases h1; done)
  rename_i j
  split at h1
  · rename_i g
    have g := Nat.eq_of_beq_eq_true g
    subst g
    obtain ⟨a2, s2, h2, hc⟩ := runCs_chainG hS h1
    obtain ⟨r, i, hf⟩ := finT2_M h2
    refine ⟨a1, s1, a2, s2, hl, hc, fun w0 act w k => ?_⟩
    have e2 : q.at2 q.i2 q.c2 = q := rfl
    have := k.fin (ν' := (q.at2 q.i2 q.c2).V) hf ⟨fun p hp => ?_, keepT_at2 (fun x hx => ?_)⟩ (logs_at2 q _ _) (zeroP q)
    · rw [e2] at this; exact this
    · simp only [List.mem_cons, List.not_mem_nil, or_false] at hp
      rcases hp with rfl | rfl <;> simp only [SInt.val]
      · rw [Pn.v7]; show (0 : Int) = (q.i2 : Int); rw [h.i0.1]; rfl
      · rw [Pn.v8]; show (0 : Int) = (q.c2 : Int); rw [h.i0.2]; rfl
    · simp only [List.mem_cons, List.not_mem_nil, or_false] at hx
      rcases hx with rfl | rfl | rfl <;> simp
  · cases h1
/-- the first loop -/
theorem loop1 {q : Pn} (h : InvP q) (hN : q.N ≤ q.n) (hn : 1 ≤ q.n) {base : Nat} {w0 : World} {act : Act} {w : World} (k : AtP q base w0 act w) {n : Nat} {Q : Exit → Act → World → Prop}
    (hQ : ∀ q' a1 s1 a2 s2 act' w', InvP q' → q'.P = q.P → q'.n = q.n → q'.N = q'.n → ChainG (envM 3) q'.V base [pdAt 8, pdAt 9, hdP (pdAt 10)] a1 s1 a2 s2 → (∀ w0 act w, AtG q'.V base w0 a2 s2 act w → AtG q'.V base w0 m2A m2S act w) → AtG q'.V base w0 a1 s1 act' w' → Q .normal act' w') :
    (Code.block 0 (.loop pdLoop)).wpIn Fence.wide n Tryz.prog Q act w := by
  refine wpIn_block (wpIn_loop (fun a W => ∃ q', InvP q' ∧ q'.P = q.P ∧ q'.n = q.n ∧ q'.N ≤ q'.n ∧ AtP q' base w0 a W) (fun a _ => slotP a) ⟨q, h, rfl, rfl, hN, k⟩ ?_)
  rintro a W ⟨q1, g, gP, gn, gN, k1⟩
  have m1 := slotP_at k1
  have n1 := g.ok.n1
  by_cases hi : q1.N < q1.n
  · by_cases hf : q1.N + 1 < q1.P * q1.K
    · refine idle_step g.ok hi hf k1 (fun act' w' k2 => ⟨⟨q1.idle, inv_idle g hi hf, gP, gn, ?_, k2⟩, ?_⟩)
      · show q1.N + 1 ≤ q1.n; omega
      · rw [slotP_at k2, m1]
        show 200 - (q1.N + 1) < 200 - q1.N
        omega
    · have hf : q1.N + 1 = q1.P * q1.K := by have := g.ok.due; omega
      refine fire_step g.ok hi hf k1 (fun U act' w' k2 => ⟨⟨q1.fire fireNL U, inv_fire g hi hf U, gP, gn, ?_, k2⟩, ?_⟩)
      · show q1.N + 1 ≤ q1.n; omega
      · rw [slotP_at k2, m1]
        show 200 - (q1.N + 1) < 200 - q1.N
        omega
  · have hL : 13 < q1.L := by have := g.L; omega
    obtain ⟨a1, s1, a2, s2, hl, hc, hp⟩ := exit1 g hL (by omega) base
    refine AtG.lands (envM_glob 3) hl k1.atG (fun act' w' k2 => ?_)
    exact hQ q1 a1 s1 a2 s2 act' w' g gP gn (by omega) hc hp k2
/-! the second loop -/
structure InvT (q : Pn) (E0 : List EvT5) : Prop where
  ok : q.Ok
  L : 13 < q.L
  log : q.log = codeL E0 ∧ q.log2 = codeL (E0.drop 13)
  len : E0.length = q.L
  sf : softs (E0.drop 13) = tl q.P (q.n / q.P)
  c2 : q.c2 = (softs ((E0.drop 13).take q.i2)).length
theorem nuG {q : Pn} {E0 : List EvT5} (hok : 13 ≤ q.L ∧ q.L ≤ 3000) (hL : 13 < q.L) (hlog : q.log = codeL E0 ∧ q.log2 = codeL (E0.drop 13)) : NuA q.V := by
  refine ⟨⟨q.L, ?_, hL, by omega, Pn.v6000 q⟩, ?_⟩
  · rw [show (5000 : Nat) = 5000 + 0 from rfl, Pn.vL _ (by decide)]; rfl
  · show evsOf (q.V 1006000) = (evsOf (q.V 1005000)).drop 13
    rw [Pn.vlog2, Pn.vlog, hlog.1, hlog.2, evsOf_code, evsOf_code]
theorem InvT.nu {q : Pn} {E0 : List EvT5} (h : InvT q E0) : NuA q.V := nuG h.ok.L h.L h.log
theorem InvP.toT {q : Pn} (h : InvP q) (hN : q.N = q.n) (hL : 13 < q.L) : ∃ E0, InvT q E0 := by
  obtain ⟨E, e1, e2, e3, e4⟩ := h.evs
  refine ⟨E, h.ok, hL, ⟨e1, e2⟩, e3, ?_, by rw [h.i0.1, h.i0.2]; rfl⟩
  rw [e4]
  congr 1
  obtain ⟨d1, d2⟩ := h.ok.due
  have hK := h.ok.K
  obtain ⟨k, hk⟩ : ∃ k, q.K = k + 1 := ⟨q.K - 1, by omega⟩
  rw [hk] at d1 d2
  rw [Nat.mul_add, Nat.mul_one] at d1 d2
  rw [hk, ← hN]
  have hc : q.P * k = k * q.P := Nat.mul_comm _ _
  have hd : q.N / q.P = k := Nat.div_eq_of_lt_le (by omega) (by rw [Nat.add_mul, Nat.one_mul]; omega)
  rw [hd]; omega
theorem m2A_at : (flat m2A.tmps)[0]? = some (.int .i64 (.atom 10)) ∧ (flat m2A.tmps)[10]? = some (.int .i64 (.atom 8)) ∧ (flat m2A.tmps)[11]? = some (.slc 0 0 (.atom 6000) Option.none) ∧ (flat m2A.tmps)[12]? = some (.int .i64 (.atom 7)) := ⟨rfl, rfl, rfl, rfl⟩
theorem m2A_dead : ∀ t, 13 < t → t < 115 → (flat m2A.tmps)[t]? = some .dead := by
  have h : allP 101 (fun k => match getL (flat m2A.tmps) (k + 14) with
    | some v => match v with
      | .dead => true
      | _ => false
    | Option.none => false) = true := by kernel_rfl
  intro t h1 h2
  have := allP_at h (k := t - 14) (by omega)
  rw [show t - 14 + 14 = t by omega, getL_eq] at this
  split at this
  · rename_i v e
    rw [e]
    split at this
    · rfl
    · cases this
  · cases this
def slotT (act : Act) : Nat := match act.eval (.tmp 12) with
  | .int _ x => (5000 - x).toNat
  | _ => 0
/-- what the machine holds there -/
theorem look2 {q : Pn} {E0 : List EvT5} (hlog : q.log2 = codeL (E0.drop 13)) {base : Nat} {w0 w : World} {act : Act} (k : AtG q.V base w0 m2A m2S act w) : act.tmps.size = 115 ∧ ∃ b c, act.eval (.tmp 11) = .slice (some ⟨b, 0, none⟩) (q.L - 13) c ∧ act.eval (.tmp 12) = .int .i64 (q.i2 : Int) ∧ act.eval (.tmp 10) = .int .i64 (q.c2 : Int) ∧ act.eval (.tmp 0) = .int .i64 (q.P : Int) ∧
    ∀ i e, (E0.drop 13)[i]? = some e → w.cell? ⟨b, i * 5 + 0, none⟩ = some (.int .u64 e.1) ∧ w.cell? ⟨b, i * 5 + 1, none⟩ = some (.int .i64 e.2.1) := by
  obtain ⟨σ, k1, k2, k3⟩ := k
  obtain ⟨h0, h10, h11, h12⟩ := m2A_at
  have r0 := repA_at k2 (t := 0) (by omega) h0 (by intro e; cases e)
  have r10 := repA_at k2 (t := 10) (by omega) h10 (by intro e; cases e)
  have r11 := repA_at k2 (t := 11) (by omega) h11 (by intro e; cases e)
  have r12 := repA_at k2 (t := 12) (by omega) h12 (by intro e; cases e)
  simp only [Rep, SInt.val] at r0 r10 r11 r12
  rw [Pn.v10] at r0
  rw [Pn.v8] at r10
  rw [Pn.v7] at r12
  obtain ⟨b, z, l, c, e1, e2, e3, e4, e5, e6⟩ := r11
  rw [Pn.v6000] at e3
  have hl : l = q.L - 13 := by omega
  subst hl
  refine ⟨k2.tmps.1, b, c, e2, r12, r10, r0, fun i e hi => ?_⟩
  obtain ⟨b', z', o, m1, m2, m3, C, L, M, N', m4, m5, m6, m7, m8, m9, m10⟩ := k1.blk 0 (.log 6000 [] 34) rfl
  rw [e1] at m1; cases m1
  subst m4
  have hM : M = [] := by simp only [RepL] at m6; exact m6
  subst hM
  unfold EvCells at m9
  have hev : evsOf (q.V (logN 6000)) = E0.drop 13 := by
    show evsOf (q.V 1006000) = _
    rw [Pn.vlog2, hlog, evsOf_code]
  rw [hev] at m9
  have hrow : ∀ (l : List EvT5) (i : Nat) e, l[i]? = some e → (evRow l)[i * 5 + 0]? = some (.int .u64 e.1) ∧ (evRow l)[i * 5 + 1]? = some (.int .i64 e.2.1) := by
    intro l
    induction l with
    | nil => intro i e h; simp at h
    | cons a l ih =>
      intro i e h
      have er : evRow (a :: l) = evT5C a ++ evRow l := rfl
      rw [er]
      cases i with
      | zero =>
        simp at h
        subst h
        exact ⟨rfl, rfl⟩
      | succ i =>
        obtain ⟨p1, p2⟩ := ih i e (by simpa using h)
        rw [List.getElem?_append_right (by simp [evT5C]; omega), List.getElem?_append_right (by simp [evT5C]; omega)]
        have hl : (evT5C a).length = 5 := rfl
        rw [hl, show (i + 1) * 5 + 0 - 5 = i * 5 + 0 by omega, show (i + 1) * 5 + 1 - 5 = i * 5 + 1 by omega]
        exact ⟨p1, p2⟩
  obtain ⟨p1, p2⟩ := hrow _ i e hi
  have hC : ∀ j V, (evRow (E0.drop 13))[j]? = some V → w.cell? ⟨b, j, none⟩ = some V := by
    intro j V hj
    have : C[j]? = some V := by
      rw [← Array.getElem?_toList, m5, m9, List.getElem?_append_left (List.getElem?_eq_some_iff.1 hj).1]
      exact hj
    simp [World.cell?, m3, this]
  exact ⟨hC _ _ p1, hC _ _ p2⟩
theorem slotT_at {q : Pn} {E0 : List EvT5} (h : InvT q E0) {base : Nat} {w0 w : World} {act : Act} (k : AtG q.V base w0 m2A m2S act w) : slotT act = 5000 - q.i2 := by
  obtain ⟨_, b, c, _, e12, _⟩ := look2 h.log.2 k
  unfold slotT
  rw [e12]
  show (5000 - ((q.i2 : Nat) : Int)).toNat = _
  omega
/-- a piece of the second loop -/
theorem piece2 {q : Pn} (hq : q.Ok) (hA : NuA q.V) (hi : q.i2 < q.L - 13) {c : Code} {ints : List (SInt × SInt)} {l : List Nat} (hrun : isOkB (runCs (sfT 4) 4 [c] m2A m2S (finT2 [(0, 0)] ints l)) = true) {i' c' : Nat} (hI : ∀ p ∈ ints, p.1.val q.V = p.2.val (q.at2 i' c').V)
    (hl : ∀ x ∈ l, x = 10 ∨ x = 11 ∨ x = 6000 ∨ (x = 7 ∧ q.i2 = i') ∨ (x = 8 ∧ q.c2 = c')) {base : Nat} {w0 w : World} {act : Act} (k : AtG q.V base w0 m2A m2S act w) {n : Nat} {Q : Exit → Act → World → Prop}
    (hQ : ∀ act' w', AtG (q.at2 i' c').V base w0 m2A m2S act' w' → Q .normal act' w') : c.wpIn Fence.wide n Tryz.prog Q act w := by
  have hS := (sfT_ok (ph := 4) hq hA (rulesP4_ok hq hi) (base := base)).2
  generalize sfT 4 = sf at hS hrun
  obtain ⟨out, ho⟩ := isOkB_ok hrun
  obtain ⟨a2, s2, h2, hc⟩ := runCs_chainG hS ho
  obtain ⟨r, i, hf⟩ := finT2_M h2
  refine ChainG.wp1 (envM_glob 4) hc k (fun act' w' k' => hQ act' w' ?_)
  exact k'.fin hf ⟨hI, keepT_at2 hl⟩ (logs_at2 q _ _) (zeroP q)
end Go.Ev
set_option maxRecDepth 100000
namespace Go.Ev
open Go Go.Proofs
/-! TopPeriod: the second loop, and the end -/
theorem pdL2_eq : pdL2 = .seq (hdP pdL2) (.seq (.block 3 pdB3) (tlP (tlP pdL2))) := by kernel_rfl
theorem pdB3_eq : pdB3 = .seq pd18 (.cond (.tmp 94) pdX .skip) := by kernel_rfl
noncomputable def pdX3 : Code := cdP (tlP (tlP pdX))
theorem pdX_eq : pdX = .seq (hdP pdX) (.seq pd20 (.cond (.tmp 106) pdX3 .skip)) := by kernel_rfl
theorem softs_take {E : List EvT5} {i : Nat} {e : EvT5} (h : E[i]? = some e) : softs (E.take (i + 1)) = softs (E.take i) ++ softs [e] := by
  have hl := (List.getElem?_eq_some_iff.1 h).1
  have : E.take (i + 1) = E.take i ++ [e] := by
    rw [List.take_add_one, h]; rfl
  rw [this, softs_append]
theorem softs_len_take (E : List EvT5) (i : Nat) : (softs (E.take i)).length ≤ i := by
  unfold softs
  rw [List.length_map]
  refine Nat.le_trans (List.length_filter_le _ _) ?_
  rw [List.length_take]; omega
theorem tl_get {P m j : Nat} {x : Int} (h : (tl P m)[j]? = some x) : j < m ∧ x = ((P * (j + 1) : Nat) : Int) := by
  unfold tl at h
  rw [List.getElem?_map] at h
  cases g : (List.range m)[j]? with
  | none => rw [g] at h; cases h
  | some y =>
    rw [g] at h
    obtain ⟨g1, g2⟩ := List.getElem?_eq_some_iff.1 g
    rw [List.length_range] at g1
    rw [List.getElem_range] at g2
    cases h
    exact ⟨g1, by rw [← g2]⟩
theorem AtG.dead1 {ν : Nat → Int} {base : Nat} {w0 w : World} {act : Act} (k : AtG ν base w0 m2A m2S act w) {t : Nat} (h1 : 13 < t) (h2 : t < 115) (V : Value) : AtG ν base w0 m2A m2S (act.put (some t) V) w := by
  obtain ⟨σ, k1, k2, k3⟩ := k
  exact ⟨σ, k1, k2.dead (m2A_dead t h1 h2) V, k3⟩
theorem at2_self (q : Pn) : q.at2 q.i2 q.c2 = q := rfl
theorem ok_at2 {q : Pn} (h : q.Ok) {i c : Nat} (hi : i ≤ q.L - 13) (hc : c ≤ i + 1) : (q.at2 i c).Ok := ⟨h.raw, h.P, h.n, h.P1, h.n1, h.N, h.K, h.due, h.L, hi, hc⟩
theorem round2 {q : Pn} {E0 : List EvT5} (h : InvT q E0) (hi : q.i2 < q.L - 13) {base : Nat} {w0 w : World} {act : Act} (k : AtG q.V base w0 m2A m2S act w) {n : Nat} {Q : Exit → Act → World → Prop}
    (hQ : ∀ q' act' w', InvT q' E0 → q'.P = q.P → q'.n = q.n → q'.i2 = q.i2 + 1 → AtG q'.V base w0 m2A m2S act' w' → Q .normal act' w') : pdL2.wpIn Fence.wide n Tryz.prog Q act w := by
  have hE := (sfT_ok (ph := 4) h.ok h.nu (rulesP4_ok h.ok hi) (base := base)).1
  have hlen : (E0.drop 13).length = q.L - 13 := by rw [List.length_drop, h.len]
  have hc2 : q.c2 ≤ q.i2 := by rw [h.c2]; exact softs_len_take _ _
  obtain ⟨e, he⟩ : ∃ e, (E0.drop 13)[q.i2]? = some e := ⟨_, List.getElem?_eq_getElem (by omega)⟩
  have htake := softs_take he
  -- the last piece
  have last : ∀ c1 act1 w1, c1 ≤ q.i2 + 1 → c1 = (softs ((E0.drop 13).take (q.i2 + 1))).length → AtG (q.at2 q.i2 c1).V base w0 m2A m2S act1 w1 → (tlP (tlP pdL2)).wpIn Fence.wide n Tryz.prog Q act1 w1 := by
    intro c1 act1 w1 b1 b2 k1
    have ok1 : (q.at2 q.i2 c1).Ok := ok_at2 h.ok (by omega) b1
    refine piece2 (q := q.at2 q.i2 c1) ok1 (nuG (E0 := E0) h.ok.L h.L h.log) hi run_17 (i' := q.i2 + 1) (c' := c1) (fun p hp => ?_) (fun x hx => ?_) k1 (fun act' w' k' => ?_)
    · have := List.mem_singleton.1 hp
      subst this
      simp only [SInt.val]
      rw [Pn.v12, Pn.v7]; rfl
    · simp only [List.mem_cons, List.not_mem_nil, or_false] at hx
      rcases hx with rfl | rfl | rfl | rfl
      · exact .inr (.inr (.inr (.inr ⟨rfl, rfl⟩)))
      · simp
      · simp
      · simp
    · exact hQ (q.at2 (q.i2 + 1) c1) act' w' ⟨ok_at2 h.ok (by omega) (by omega), h.L, h.log, h.len, h.sf, b2⟩ rfl rfl rfl k'
  rw [pdL2_eq]
  refine wpIn_seq (piece2 h.ok h.nu hi run_16 (i' := q.i2) (c' := q.c2) (fun p hp => by cases hp) (fun x hx => ?_) k (fun act1 w1 k1 => ?_))
  · simp only [List.mem_cons, List.not_mem_nil, or_false] at hx
    rcases hx with rfl | rfl | rfl | rfl | rfl <;> simp
  rw [at2_self] at k1
  obtain ⟨z1, b, c, e11, e12, e10, e0, hcell⟩ := look2 h.log.2 k1
  obtain ⟨cell0, cell1⟩ := hcell _ _ he
  refine wpIn_seq (wpIn_block ?_)
  rw [pdB3_eq]
  refine wpIn_seq (reg18P rfl hE z1 e11 e12 (by omega) cell1 (fun V0 V1 V2 V3 V4 => ?_))
  have k2 := (((((k1.dead1 (t := 89) (by decide) (by decide) V0).dead1 (t := 90) (by decide) (by decide) V1).dead1 (t := 91) (by decide) (by decide) V2).dead1 (t := 92) (by decide) (by decide) V3).dead1 (t := 93) (by decide) (by decide) V4).dead1 (t := 94) (by decide) (by decide) (.bool (decide (e.2.1 = 1)))
  have t94 : ((((((act1.put (some 89) V0).put (some 90) V1).put (some 91) V2).put (some 92) V3).put (some 93) V4).put (some 94) (.bool (decide (e.2.1 = 1)))).eval (.tmp 94) = .bool (decide (e.2.1 = 1)) := by
    rw [put_at _ _ _ (by simp only [put_size]; omega)]
  generalize ((((((act1.put (some 89) V0).put (some 90) V1).put (some 91) V2).put (some 92) V3).put (some 93) V4).put (some 94) (.bool (decide (e.2.1 = 1)))) = act2 at k2 t94
  by_cases hk : e.2.1 = 1
  · rw [decide_eq_true hk] at t94
    have hs1 : softs [e] = [e.1] := by
      unfold softs
      rw [List.filter_cons_of_pos (by simpa using hk)]; rfl
    rw [hs1] at htake
    have hx : (tl q.P (q.n / q.P))[q.c2]? = some e.1 := by
      rw [← h.sf]
      have e1 : softs (E0.drop 13) = softs ((E0.drop 13).take (q.i2 + 1)) ++ softs ((E0.drop 13).drop (q.i2 + 1)) := by
        rw [← softs_append, List.take_append_drop]
      rw [e1, htake, List.append_assoc, List.getElem?_append_right (by rw [h.c2]; exact Nat.le_refl _), h.c2, Nat.sub_self]
      rfl
    obtain ⟨x1, x2⟩ := tl_get hx
    have hmp : (q.c2 + 1) * q.P ≤ 1000000 := by
      have h1 : (q.c2 + 1) * q.P ≤ (q.n / q.P) * q.P := Nat.mul_le_mul_right _ x1
      have h2 : (q.n / q.P) * q.P ≤ q.n := Nat.div_mul_le_self _ _
      have := h.ok.n1
      omega
    refine wpIn_cond_true t94 ?_
    rw [pdX_eq]
    refine wpIn_seq (piece2 h.ok h.nu hi run_19 (i' := q.i2) (c' := q.c2 + 1) (fun p hp => ?_) (fun x hx => ?_) k2 (fun act3 w3 k3 => ?_))
    · have := List.mem_singleton.1 hp
      subst this
      simp only [SInt.val]
      rw [Pn.v13, Pn.v8]; rfl
    · simp only [List.mem_cons, List.not_mem_nil, or_false] at hx
      rcases hx with rfl | rfl | rfl | rfl <;> simp
    obtain ⟨z3, b3, c3, f11, f12, f10, f0, fcell⟩ := look2 (q := q.at2 q.i2 (q.c2 + 1)) (E0 := E0) h.log.2 k3
    obtain ⟨fc0, _⟩ := fcell _ _ he
    rw [x2, show q.P * (q.c2 + 1) = (q.c2 + 1) * q.P from Nat.mul_comm _ _] at fc0
    refine wpIn_seq (reg20P rfl hE z3 f11 f12 hi (m := q.c2 + 1) (p := q.P) f10 f0 hmp fc0 (fun V0 V1 V2 V3 V4 V5 V6 V7 V8 => ?_))
    have k4 := (((((((((k3.dead1 (t := 97) (by decide) (by decide) V0).dead1 (t := 98) (by decide) (by decide) V1).dead1 (t := 99) (by decide) (by decide) V2).dead1 (t := 100) (by decide) (by decide) V3).dead1 (t := 101) (by decide) (by decide) V4).dead1 (t := 102) (by decide) (by decide) V5).dead1 (t := 103) (by decide) (by decide) V6).dead1 (t := 104) (by decide) (by decide) V7).dead1 (t := 105) (by decide) (by decide) V8).dead1 (t := 106) (by decide) (by decide) (.bool false)
    have t106 : ((((((((((act3.put (some 97) V0).put (some 98) V1).put (some 99) V2).put (some 100) V3).put (some 101) V4).put (some 102) V5).put (some 103) V6).put (some 104) V7).put (some 105) V8).put (some 106) (.bool false)).eval (.tmp 106) = .bool false := by
      rw [put_at _ _ _ (by simp only [put_size]; omega)]
    generalize ((((((((((act3.put (some 97) V0).put (some 98) V1).put (some 99) V2).put (some 100) V3).put (some 101) V4).put (some 102) V5).put (some 103) V6).put (some 104) V7).put (some 105) V8).put (some 106) (.bool false)) = act4 at k4 t106
    refine wpIn_cond_false t106 ?_
    refine wpIn_skip ?_
    show (tlP (tlP pdL2)).wpIn Fence.wide n Tryz.prog Q act4 w3
    refine last (q.c2 + 1) act4 w3 (by omega) ?_ k4
    rw [htake, List.length_append, ← h.c2]; rfl
  · rw [decide_eq_false hk] at t94
    have hs1 : softs [e] = [] := by
      unfold softs
      rw [List.filter_cons_of_neg (by simpa using hk)]; rfl
    rw [hs1, List.append_nil] at htake
    refine wpIn_cond_false t94 ?_
    refine wpIn_skip ?_
    show (tlP (tlP pdL2)).wpIn Fence.wide n Tryz.prog Q act2 w1
    exact last q.c2 act2 w1 (by omega) (by rw [htake]; exact h.c2) k2
theorem loop2 {q : Pn} {E0 : List EvT5} (h : InvT q E0) {base : Nat} {w0 w : World} {act : Act} (k : AtG q.V base w0 m2A m2S act w) {n : Nat} {Q : Exit → Act → World → Prop}
    (hQ : ∀ q' act' w', InvT q' E0 → q'.L - 13 ≤ q'.i2 → q'.c2 = q'.n / q'.P → AtG q'.V base w0 m2A m2S act' w' → Q .normal act' w') : (Code.block 2 (.loop pdL2)).wpIn Fence.wide n Tryz.prog Q act w := by
  refine wpIn_block (wpIn_loop (fun a W => ∃ q', InvT q' E0 ∧ AtG q'.V base w0 m2A m2S a W) (fun a _ => slotT a) ⟨q, h, k⟩ ?_)
  rintro a W ⟨q1, g, k1⟩
  have m1 := slotT_at g k1
  have hL := g.ok.L
  by_cases hi : q1.i2 < q1.L - 13
  · refine round2 g hi k1 (fun q' act' w' h' _ _ hi' k' => ⟨⟨q', h', k'⟩, ?_⟩)
    rw [slotT_at h' k', m1, hi']
    omega
  · have hlen : (E0.drop 13).length = q1.L - 13 := by rw [List.length_drop, g.len]
    have hc : q1.c2 = q1.n / q1.P := by
      rw [g.c2, List.take_of_length_le (by omega), g.sf]
      unfold tl
      rw [List.length_map, List.length_range]
    have hS := (sfT_ok (ph := 5) g.ok g.nu (rulesP5_ok g.ok (by omega) hc) (base := base)).2
    have h0 := run_X2
    unfold okX2 at h0
    generalize sfT 5 = sf at hS h0
    obtain ⟨out, ho⟩ := isOkB_ok h0
    obtain ⟨e, a1, s1, h1, hl⟩ := codeX hS ho
    cases e <;> dsimp only at h1 <;> try (cases h1; done)
    rename_i j
    split at h1
    · rename_i gj
      have gj := Nat.eq_of_beq_eq_true gj
      subst gj
      obtain ⟨r, i, hf⟩ := finT2_M h1
      rw [pdL2_eq]
      refine wpIn_seq (AtG.lands (envM_glob 5) hl k1 (fun act' w' k2 => ?_))
      have k3 := k2.fin (ν' := (q1.at2 q1.i2 q1.c2).V) hf ⟨fun p hp => (by cases hp), keepT_at2 (fun x hx => ?_)⟩ (logs_at2 q1 _ _) (zeroP q1)
      · exact hQ q1 act' w' g (by omega) hc k3
      · simp only [List.mem_cons, List.not_mem_nil, or_false] at hx
        rcases hx with rfl | rfl | rfl | rfl | rfl <;> simp
    · cases h1
/-- the function's end -/
theorem end1 {E : Env} (hg : E.glob = glob0f) {ν : Nat → Int} {base : Nat} (hE : EOk Tryz.prog E ν) {sf : Self} (hS : SelfOk Tryz.prog E ν base sf) {a : A} {st : St} {out} (h : sf.code 4 pdEnd Option.none a st (finV Tryz.f4.ntmps E) = .ok out)
    {w0 w : World} {act : Act} (k : AtG ν base w0 a st act w) {n : Nat} {R : Ending → World → Prop} (hR : ∀ w', BaseKept base w0 w' → R (.returned (.bool true)) w') : pdEnd.wpIn Fence.wide n Tryz.prog (bodyPostM Fence.wide n Tryz.prog Tryz.f4 R) act w := by
  obtain ⟨e, a1, st1, h1, hl⟩ := codeX hS h
  unfold finV at h1
  cases e <;> dsimp only at h1 <;> try (cases h1; done)
  have h0 := closeK_ok (P := Tryz.prog) (E := E) (ν := ν) (base := base) h1
  clear h1
  obtain ⟨st2, h2, hclose⟩ := h0
  have h0 := resultsC_ok (base := base) hE h2
  clear h2
  obtain ⟨vs, h3, hres⟩ := h0
  obtain ⟨σ, k1, k2, k3⟩ := k
  have k1' : Sim Tryz.prog E ν base σ st w := Sim.env' (E := EP) (E' := E) hg k1
  refine hl σ w act Fence.wide n _ k1' k2 rfl (fun σ1 w1 act1 go1 ha1 => ?_)
  show LeavesInM Fence.wide n Tryz.prog Tryz.f4 act1.tmps R act1.defers .returning w1
  obtain ⟨Ds, q1, q2, q3⟩ := ha1.defers
  rw [q1]
  refine hclose σ1 w1 n _ act1.tmps R Ds go1.2 q2 q3 (fun w2 go2 => ?_)
  obtain ⟨Vs, r1, r2⟩ := hres σ1 w2 act1 go2.2 (by rw [f4_nt]; exact ha1)
  refine ⟨_, results_run r1, ?_⟩
  split at h3
  · rename_i v
    split at h3
    · split at h3
      · simp only [RepL, Rep] at r2
        obtain ⟨V, Us, rfl, rfl, rfl⟩ := r2
        have := hR w2 (k3.trans (((go1.trans go2)).kept k1'))
        simpa using this
      · cases h3
    · cases h3
  · cases h3
end Go.Ev
set_option maxRecDepth 100000
namespace Go.Ev
open Go Go.Proofs
/-! TopPeriod: the whole function -/
theorem pdBody_eq : pdBody = .seq (pdAt 0) (.seq (pdAt 1) (.seq (pdAt 2) (.seq (pdAt 3) (.seq (pdAt 4) (.seq (pdAt 5) (.seq (pdAt 6) (.seq (.seq (hdP (pdAt 7)) (.block 0 (.loop pdLoop))) (.seq (pdAt 8) (.seq (pdAt 9) (.seq (.seq (hdP (pdAt 10)) (.block 2 (.loop pdL2))) pdEnd)))))))))) := by kernel_rfl
theorem pdBody_eq2 : pdBody = .seq (pdAt 0) (.seq (pdAt 1) (.seq (pdAt 2) (.seq (pdAt 3) (.seq (pdAt 4) (.seq (pdAt 5) (.seq (pdAt 6) (.seq (pdAt 7) (.seq (pdAt 8) (.seq (pdAt 9) (.seq (pdAt 10) pdEnd)))))))))) := by kernel_rfl
theorem f4_body : Tryz.f4.body = some pdBody := by kernel_rfl
theorem CallLands.env {P : Program} {E E' : Env} {ν : Nat → Int} {base : Nat} (hg : E'.glob = E.glob) {f : FuncId} {args : List SV} {st : St} {v : SV} {st' : St} (h : CallLands P E ν base f args st v st') : CallLands P E' ν base f args st v st' :=
  ⟨h.1, fun σ w Args n R hs hA hR => h.2 σ w Args n R (Sim.env' (E := E') (E' := E) hg.symm hs) hA fun σ' w' V go hV => hR σ' w' V ⟨go.1, Sim.env' (E := E) (E' := E') hg go.2⟩ hV⟩
theorem rulesZ_ok {q : Pn} (h : q.Ok) (hK : q.K = 1) (hn : q.n = 0) : ∀ r ∈ appR rulesZ (rulesP 0), RlOk Tryz.prog q.V r := by
  have h1 := h.P1
  intro r hr
  rw [appR_eq] at hr
  rcases List.mem_append.1 hr with hr | hr
  · simp only [rulesZ, rl, List.mem_cons, List.not_mem_nil, or_false] at hr
    rcases hr with rfl | rfl <;> simp only [RlOk, rlV, SInt.val]
    · exact symLss (by rw [decide_eq_false (by simp only [Pn.v11]; omega)])
    · refine symQuo (by rw [Pn.v10]; omega) ?_
      simp only [SInt.val, Pn.v11, Pn.v10, hn]
      rw [tdiv_nat, Nat.zero_div, wrap_i (by omega) (by omega)]; rfl
  · exact rulesP0_ok h hK r hr
theorem sfZ_ok {q : Pn} (h : q.Ok) (hK : q.K = 1) (hn : q.n = 0) {base : Nat} : EOk Tryz.prog envZ q.V ∧ SelfOk Tryz.prog envZ q.V base sfZ := by
  have h1 : EOk Tryz.prog envZ q.V := eokP (rulesZ_ok h hK hn) (rngs_ok h) (logN_ok h) (convsP_ok q)
  have h2 : IntrOk Tryz.prog envZ q.V base := fun g x hx _ _ _ _ _ hr => by
    have hx : intrZ g = some x := hx
    unfold intrZ at hx
    split at hx
    · cases hx; exact awakeI_ok rfl hr
    · exact intrP_ok rfl (nuP h) hx hr
  have hS := (sfP_ok (ph := 0) h (rulesP0_ok h hK) (base := base)).2.2
  have c0 := CallLands.env (E := envP 0) (E' := envZ) rfl (call_lands_of hS run_call0)
  have c1 := CallLands.env (E := envP 0) (E' := envZ) rfl (call_lands_of hS run_call1)
  have c2 := CallLands.env (E := envP 0) (E' := envZ) rfl (call_lands_of hS run_call2)
  exact ⟨h1, selfStep_ok h1 h2 (memoSelf_ok (memoSelf_ok (memoSelf_ok (selfN_ok h1 h2 _) c2) c1) c0)⟩
theorem pro1 {p0 n0 : Int} (h : (qP p0 n0).Ok) (base : Nat) : ∃ a1 s1, ChainG (envP 0) (qP p0 n0).V base [pdAt 0, pdAt 1, pdAt 2, pdAt 3, pdAt 4] pd0A ⟨.leaf, 0⟩ a1 s1 ∧ ∀ w0 act w, AtG (qP p0 n0).V base w0 a1 s1 act w → AtG (qP p0 n0).V base w0 mA mS act w := by
  have hS := (sfP_ok (ph := 0) h (rulesP0_ok h rfl) (base := base)).2.2
  have h0 := run_set1
  generalize sfP 0 = sf at hS h0
  obtain ⟨out, ho⟩ := isOkB_ok h0
  obtain ⟨a2, s2, h2, hc⟩ := runCs_chainG hS ho
  obtain ⟨r, i, hf⟩ := finP_M h2
  refine ⟨a2, s2, hc, fun w0 act w k => k.fin hf ⟨fun p hp => (by cases hp), fun _ _ => rfl⟩ (fun p hp => (by cases hp)) (zeroP _)⟩
theorem pro2 {p0 n0 : Int} (h : (qP p0 n0).Ok) (base : Nat) : ∃ a1 s1, ChainG (envP 0) (qP p0 n0).V base [pdAt 5, pdAt 6, hdP (pdAt 7)] mA mS a1 s1 ∧ ∀ w0 act w, AtG (qP p0 n0).V base w0 a1 s1 act w → AtG (qP p0 n0).V base w0 hA x0S act w := by
  have hS := sfM_ok h rfl (base := base)
  have h0 := run_set2
  generalize sfM = sf at hS h0
  obtain ⟨out, ho⟩ := isOkB_ok h0
  obtain ⟨a2, s2, h2, hc⟩ := runCs_chainG hS ho
  obtain ⟨r, i, hf⟩ := finP_M h2
  exact ⟨a2, s2, hc, fun w0 act w k => k.fin hf ⟨set_ints h, fun _ _ => rfl⟩ (set_logs p0 n0) (zeroP _)⟩
theorem proZ {p0 n0 : Int} (h : (qP p0 n0).Ok) (hn : (qP p0 n0).n = 0) (base : Nat) : ∃ a1 s1 out, ChainG envZ (qP p0 n0).V base [pdAt 5, pdAt 6, pdAt 7, pdAt 8, pdAt 9, pdAt 10] mA mS a1 s1 ∧ sfZ.code 4 pdEnd Option.none a1 s1 (finV Tryz.f4.ntmps envZ) = .ok out := by
  have hS := (sfZ_ok h rfl hn (base := base)).2
  have h0 := run_Z
  unfold okZ at h0
  generalize sfZ = sf at hS h0 ⊢
  obtain ⟨out, ho⟩ := isOkB_ok h0
  obtain ⟨a2, s2, h2, hc⟩ := runCs_chainG hS ho
  exact ⟨a2, s2, out, hc, h2⟩
/-- TopPeriod answers true, from any world that holds the tables -/
theorem period_calls {p0 n0 : Int} (h1 : IntKind.wrap .i64 p0 = p0) (h2 : IntKind.wrap .i64 n0 = n0) {W : World} (hG : ∀ g cs, glob0f g = some cs → g < W.heap.size ∧ ∃ C t f, W.heap[g]? = some (.cells C t f) ∧ ∀ σ, RepL (qP p0 n0).V σ cs C.toList) {n : Nat} {R : Ending → World → Prop}
    (hR : ∀ w', BaseKept W.heap.size W w' → R (.returned (.bool true)) w') : CallsIn Fence.wide n Tryz.prog 4 #[.int .i64 p0, .int .i64 n0] W R := by
  have hq := qP_ok h1 h2
  have hI := inv0 h1 h2
  refine callsIn_of_wp_marks Tryz.func4 f4_body trivial ?_
  have k0 : AtG (qP p0 n0).V W.heap.size W pd0A ⟨.leaf, 0⟩ { tmps := #[.int .i64 p0, .int .i64 n0] ++ Array.replicate (Tryz.f4.ntmps - 2) undef, defers := [] } W := by
    refine ⟨fun _ => Option.none, ⟨fun _ _ => rfl, (fun n b e => by cases e), (fun n m b c bl z y e => by cases e), (fun g cs e => ?_), Nat.le_refl _⟩, ⟨⟨?_, fun t ht => ?_⟩, [], rfl, rfl, fun i m D e => by simp [pd0A] at e⟩, .refl W⟩
    · obtain ⟨h1, C, t, f, h3, h4⟩ := hG g cs e
      exact ⟨h1, C, t, f, h3, h4 _⟩
    · show (#[Value.int .i64 p0, .int .i64 n0] ++ Array.replicate (Tryz.f4.ntmps - 2) undef).size = 115
      rw [f4_nt, Array.size_append, Array.size_replicate]; rfl
    · have hfl : flat pd0A.tmps = [.int .i64 (.atom 1), .int .i64 (.atom 2)] ++ List.replicate 118 undefS := by rfl
      rw [hfl]
      show ∃ s U, ([SV.int .i64 (.atom 1), .int .i64 (.atom 2)] ++ List.replicate 118 undefS)[t]? = some s ∧ (#[Value.int .i64 p0, .int .i64 n0] ++ Array.replicate (Tryz.f4.ntmps - 2) undef)[t]? = some U ∧ DRep (qP p0 n0).V (fun _ => Option.none) s U
      rw [f4_nt]
      by_cases ht3 : t < 2
      · rw [List.getElem?_append_left (by simpa using ht3), Array.getElem?_append_left (by simpa using ht3)]
        match t, ht3 with
        | 0, _ => exact ⟨.int .i64 (.atom 1), .int .i64 p0, rfl, rfl, .inr (by simp only [Rep, SInt.val]; rw [Pn.v1]; rfl)⟩
        | 1, _ => exact ⟨.int .i64 (.atom 2), .int .i64 n0, rfl, rfl, .inr (by simp only [Rep, SInt.val]; rw [Pn.v2]; rfl)⟩
      · refine ⟨undefS, undef, ?_, ?_, .inr (undef_rep _)⟩
        · rw [List.getElem?_append_right (by simp; omega), List.getElem?_replicate, if_pos (by simp; omega)]
        · rw [Array.getElem?_append_right (by simp; omega), Array.getElem?_replicate, if_pos (by simp; omega)]
  obtain ⟨a1, s1, c1, f1⟩ := pro1 hq W.heap.size
  by_cases hn : (qP p0 n0).n = 0
  · obtain ⟨a2, s2, out, c2, hz⟩ := proZ hq hn W.heap.size
    obtain ⟨hE, hS⟩ := sfZ_ok hq rfl hn (base := W.heap.size)
    rw [pdBody_eq2]
    refine ChainG.wp (envP_glob 0) c1 (rest := seqL [pdAt 5, pdAt 6, pdAt 7, pdAt 8, pdAt 9, pdAt 10] pdEnd) k0 (fun act w k => ?_)
    refine ChainG.wp (E := envZ) rfl c2 (f1 _ _ _ k) (fun act2 w2 k2 => ?_)
    exact end1 rfl hE hS hz k2 hR
  · obtain ⟨a2, s2, c2, f2⟩ := pro2 hq W.heap.size
    rw [pdBody_eq]
    refine ChainG.wp (envP_glob 0) c1 (rest := .seq (pdAt 5) (.seq (pdAt 6) (.seq (.seq (hdP (pdAt 7)) (.block 0 (.loop pdLoop))) (.seq (pdAt 8) (.seq (pdAt 9) (.seq (.seq (hdP (pdAt 10)) (.block 2 (.loop pdL2))) pdEnd)))))) k0 (fun act w k => ?_)
    have k := f1 _ _ _ k
    obtain ⟨b1, t1, l1, b2, t2, l2, b3, t3, l3, x1, x2⟩ := c2
    subst x1; subst x2
    refine wpIn_seq (AtG.lands (envP_glob 0) l1 k fun act1 w1 k1 => wpIn_seq (AtG.lands (envP_glob 0) l2 k1 fun act2 w2 k2 => wpIn_seq (wpIn_seq (AtG.lands (envP_glob 0) l3 k2 fun act3 w3 k3 => ?_))))
    refine loop1 hI (by show 0 ≤ _; omega) (by omega) (init_at (f2 _ _ _ k3)) (fun q' d1 u1 d2 u2 act4 w4 g gP gn gN hc hp k4 => ?_)
    have n1 : 1 ≤ q'.n := by rw [gn]; omega
    have hL : 13 < q'.L := by have := g.L; omega
    obtain ⟨E0, hT⟩ := g.toT gN hL
    obtain ⟨m1, v1, j1, m2, v2, j2, m3, v3, j3, y1, y2⟩ := hc
    subst y1; subst y2
    refine wpIn_seq (AtG.lands (envM_glob 3) j1 k4 fun act5 w5 k5 => wpIn_seq (AtG.lands (envM_glob 3) j2 k5 fun act6 w6 k6 => wpIn_seq (wpIn_seq (AtG.lands (envM_glob 3) j3 k6 fun act7 w7 k7 => ?_))))
    refine loop2 hT (hp _ _ _ k7) (fun q2 act8 w8 hT2 hi2 hc2 k8 => ?_)
    obtain ⟨hE, hS⟩ := sfT_ok (ph := 5) hT2.ok hT2.nu (rulesP5_ok hT2.ok hi2 hc2) (base := W.heap.size)
    obtain ⟨out, ho⟩ := isOkB_ok run_E2
    exact end1 (envM_glob 5) hE hS ho k8 hR
end Go.Ev
