/- What a grace holds: in plain mathematics. -/
import Derived.Test.YtefippjakkgjkaaDoorInsA
namespace Go.Proofs.YtefippjakkgjkaaDoor
open Go.RowKit

/-- Whose section is as old as the scan is a holdout. -/
def Wts (S : SSt) (c : ScSt) : Prop := ∀ r : Nat, r < 64 → 0 < S.sin r → S.sin r ≤ c.began → c.left.testBit r = true
theorem Wts.looked {S : SSt} {c : ScSt} (h : Wts S c) (r : Int) : Wts S (look S c r) := by
  unfold Proofs.YtefippjakkgjkaaDoor.look
  split
  · rename_i hB
    intro j hj h1 h2
    show (withoutN c.left [r]).testBit j = true
    have h2' : S.sin j ≤ c.began := h2
    rw [testBit_withoutN j hj, h j hj h1 h2', Bool.true_and]
    by_cases e : (j : Int) = r
    · subst e
      exfalso
      have hs : S.sinI j = (S.sin j : Nat) := by unfold SSt.sinI; rw [if_pos (by omega), Int.toNat_natCast]
      simp only [lookB, hs, Bool.and_eq_true, Bool.not_eq_true', Bool.and_eq_false_iff, decide_eq_false_iff_not] at hB
      omega
    · simp [e]
  · exact h
theorem Wts.pst {S : SSt} {c : ScSt} (h : Wts S c) : Wts S (pstep S c) := by
  unfold Proofs.YtefippjakkgjkaaDoor.pstep
  split
  · exact h.looked _
  · exact h
theorem Wts.psts {S : SSt} : ∀ (n : Nat) {c : ScSt}, Wts S c → Wts S (psteps S n c)
  | 0, _, h => h
  | n + 1, _, h => Wts.psts n h.pst
theorem Wts.polled {S : SSt} {c : ScSt} (h : Wts S c) (n : Int) : Wts S (poll S c n) := Wts.psts _ h
theorem Wts.start {S : SSt} (hok : S.Ok) : Wts S ⟨S.m, S.st, 0⟩ := by
  intro j hj h1 _
  have hd : 0 < S.dep j := by
    cases hd : S.dep j with
    | zero => have := hok.zero j hd; omega
    | succ _ => omega
  have hb := hok.bits j hj
  rw [decide_eq_true hd] at hb
  simp only [hasN, Bool.and_eq_true, Int.toNat_natCast] at hb
  exact hb.2
theorem poll_beg (S : SSt) (c : ScSt) (n : Int) : (poll S c n).began = c.began := psteps_began S _ c
theorem lenN_zero_bit {m : Nat} (h : lenN m = 0) (r : Nat) (hr : r < 64) : m.testBit r = false := by
  cases hb : m.testBit r with
  | false => rfl
  | true =>
    have hm := (mem_listN m r).2 ⟨hr, hb⟩
    rw [List.eq_nil_of_length_eq_zero (show (listN m).length = 0 from h)] at hm
    cases hm
/-- Readers have gone on. -/
structure Turn (S T : SSt) : Prop where
  sin : ∀ j, j < 64 → T.sin j = S.sin j ∨ T.sin j = 0 ∨ S.st < T.sin j
  st : S.st ≤ T.st
  st1 : T.st ≤ S.st + 1
theorem Turn.refl (S : SSt) : Turn S S := ⟨fun _ _ => .inl rfl, Nat.le_refl _, Nat.le_succ _⟩
theorem Turn.ent {S : SSt} (h : S.Ok) (k : Nat) (hk : k < 64) : Turn S (S.ent (k : Int)) := by
  have hl : k < S.rs.length := by rw [h.len]; exact hk
  by_cases h8 : S.dep k = 8
  · rw [(SSt.entE_8 hk h8).2]; exact Turn.refl S
  · by_cases h0 : S.dep k = 0
    · rw [(SSt.entE_0 hk h0).2]
      refine ⟨fun j _ => ?_, Nat.le_succ _, Nat.le_refl _⟩
      rw [SSt.sin_set _ _ _ _ _ hl]
      split
      · exact .inr (.inr (Nat.lt_succ_self _))
      · exact .inl rfl
    · rw [(SSt.entE_n hk h0 h8).2]
      refine ⟨fun j _ => ?_, Nat.le_refl _, Nat.le_succ _⟩
      rw [SSt.sin_set _ _ _ _ _ hl]
      split
      · rename_i e; subst e; exact .inl rfl
      · exact .inl rfl
theorem Turn.exi {S : SSt} (h : S.Ok) (k : Nat) (hk : k < 64) : Turn S (S.exi (k : Int)) := by
  have hl : k < S.rs.length := by rw [h.len]; exact hk
  by_cases h0 : S.dep k = 0
  · rw [(SSt.exiE_0 hk h0).2.1]; exact Turn.refl S
  · by_cases h1 : S.dep k = 1
    · rw [(SSt.exiE_1 hk h1).2.1]
      refine ⟨fun j _ => ?_, Nat.le_refl _, Nat.le_succ _⟩
      rw [SSt.sin_set _ _ _ _ _ hl]
      split
      · exact .inr (.inl rfl)
      · exact .inl rfl
    · rw [(SSt.exiE_n hk h0 h1).2.1]
      refine ⟨fun j _ => ?_, Nat.le_refl _, Nat.le_succ _⟩
      rw [SSt.sin_set _ _ _ _ _ hl]
      split
      · rename_i e; subst e; exact .inl rfl
      · exact .inl rfl
theorem Wts.turn {S T : SSt} {c : ScSt} (h : Wts S c) (ht : Turn S T) (hb : c.began ≤ S.st) : Wts T c := by
  intro j hj h1 h2
  rcases ht.sin j hj with e | e | e
  · exact h j hj (e ▸ h1) (e ▸ h2)
  · omega
  · omega
/-- Has every section of a picture ended? -/
def endedB (S : SSt) (q : Nat → Int) : Bool := (List.range 64).all fun r => !(decide (0 < q r) && decide ((S.sin r : Int) = q r))
/-- Every section that is open began behind stamp d. -/
def Past (S : SSt) (d : Nat) : Prop := ∀ r : Nat, r < 64 → S.sin r = 0 ∨ d < S.sin r
theorem Past.turn {S T : SSt} {d : Nat} (h : Past S d) (ht : Turn S T) (hd : d ≤ S.st) : Past T d := by
  intro j hj
  rcases ht.sin j hj with e | e | e
  · rw [e]; exact h j hj
  · exact .inl e
  · exact .inr (by omega)
theorem ended_of {S : SSt} {d : Nat} (h : Past S d) {q : Nat → Int} (hq : ∀ r, r < 64 → q r ≤ (d : Int)) : endedB S q = true := by
  unfold endedB
  rw [List.all_eq_true]
  intro r hr
  have hr := List.mem_range.1 hr
  have h1 := hq r hr
  rw [Bool.not_eq_true', Bool.and_eq_false_iff, decide_eq_false_iff_not, decide_eq_false_iff_not]
  rcases h r hr with e | e
  · by_cases h0 : 0 < q r
    · right; omega
    · exact .inl h0
  · right; omega
theorem Wts.past {S : SSt} {c : ScSt} (h : Wts S c) (h0 : lenN c.left = 0) : Past S c.began := by
  intro r hr
  by_cases e : S.sin r = 0
  · exact .inl e
  · by_cases e2 : S.sin r ≤ c.began
    · have := h r hr (by omega) e2
      rw [lenN_zero_bit h0 r hr] at this; cases this
    · exact .inr (by omega)
/-! ### What holds of the callbacks -/
/-- A list's closed ones are of generation g, and stand ahead of its open ones. -/
def Half (g : Int) (xs : List K.Cl) : Prop := ∃ A B, xs = A ++ B ∧ (∀ c ∈ A, c.2 = g) ∧ ∀ c ∈ B, c.2 = 0
theorem half_split {g : Int} (hg : 0 < g) {A B : List K.Cl} (hA : ∀ c ∈ A, c.2 = g) (hB : ∀ c ∈ B, c.2 = 0) : K.dnL g (A ++ B) = A ∧ K.lfL g (A ++ B) = B := by
  unfold K.dnL K.lfL
  have h1 : ∀ c ∈ A, K.dnB g c = true := fun c hc => by
    simp only [K.dnB, Bool.and_eq_true, decide_eq_true_eq]; rw [hA c hc]; omega
  rw [List.takeWhile_append_of_pos h1, List.dropWhile_append_of_pos h1]
  cases B with
  | nil => simp
  | cons b B =>
    have h2 : K.dnB g b = false := by
      simp only [K.dnB, Bool.and_eq_false_iff, decide_eq_false_iff_not]; exact .inl (fun h => h (hB b List.mem_cons_self))
    rw [List.takeWhile_cons_of_neg (by simp [h2]), List.dropWhile_cons_of_neg (by simp [h2])]
    simp
/-- What holds of a grace at any time: the scan keeps its holdouts; what is closed is of the generation that runs. -/
structure GOk (i : Nat) (G : GSt) (d : Nat) : Prop where
  sok : G.S.Ok
  len : G.R.length = 4
  d0 : 0 ≤ G.done
  b1 : G.began ≤ i
  dn : G.done ≤ G.began
  idle : G.sc = none → G.done = G.began
  busy : ∀ y, G.sc = some y → G.done < G.began
  last : G.last ≤ G.began
  d1 : Past G.S d
  d2 : d ≤ G.S.st
  st : G.S.st ≤ i
  scan : ∀ y, G.sc = some y → y.2.began ≤ G.S.st ∧ d ≤ y.2.began ∧ Wts G.S y.2
  open' : G.sc = none → ∀ xs ∈ G.R, ∀ c ∈ xs, c.2 = 0
  half : ∀ y, G.sc = some y → ∀ xs ∈ G.R, Half G.began xs
theorem GOk.b0 {i : Nat} {G : GSt} {d : Nat} (h : GOk i G d) : 0 ≤ G.began := Int.le_trans h.d0 h.dn
theorem GOk.turn {i : Nat} {G : GSt} {d : Nat} (h : GOk i G d) {T : SSt} (ht : Turn G.S T) (hT : T.Ok) : GOk (i + 1) { G with S := T } d := by
  have h1 := h.b1; have h2 := h.st; have h3 := ht.st; have h4 := ht.st1; have h5 := h.d2
  refine ⟨hT, h.len, h.d0, (by show G.began ≤ _; omega), h.dn, h.idle, h.busy, h.last, h.d1.turn ht h.d2, (by show d ≤ T.st; omega), (by show T.st ≤ _; omega), fun y hy => ?_, h.open', h.half⟩
  have := h.scan y hy
  exact ⟨Nat.le_trans this.1 h3, this.2.1, this.2.2.turn ht this.1⟩
theorem GOk.up {i : Nat} {G : GSt} {d : Nat} (h : GOk i G d) : GOk (i + 1) G d := h.turn (Turn.refl G.S) h.sok
theorem GOk.want {i : Nat} {G : GSt} {d : Nat} (h : GOk i G d) (x : Int) : GOk i { G with want := x } d := ⟨h.sok, h.len, h.d0, h.b1, h.dn, h.idle, h.busy, h.last, h.d1, h.d2, h.st, h.scan, h.open', h.half⟩
/-- One callback more. -/
theorem GOk.call {i : Nat} {G : GSt} {d : Nat} (h : GOk i G d) (c : Nat) (hc : c < 4) (id : Int) : GOk i { G with R := G.R.set c (G.R.getD c [] ++ [(id, 0)]) } d := by
  have hlen := h.len
  have hm : G.R.getD c [] ∈ G.R := by
    have hl' : c < G.R.length := by omega
    have e : G.R.getD c [] = G.R[c] := by simp [List.getD, hl']
    rw [e]; exact List.getElem_mem hl'
  refine ⟨h.sok, by simp [hlen], h.d0, h.b1, h.dn, h.idle, h.busy, h.last, h.d1, h.d2, h.st, h.scan, fun hs xs hx => ?_, fun y hy xs hx => ?_⟩
  · rcases List.mem_or_eq_of_mem_set hx with hx | rfl
    · exact h.open' hs xs hx
    · intro q hq
      rcases List.mem_append.1 hq with hq | hq
      · exact h.open' hs _ hm q hq
      · simp at hq; subst hq; rfl
  · rcases List.mem_or_eq_of_mem_set hx with hx | rfl
    · exact h.half y hy xs hx
    · obtain ⟨A, B, e, hA, hB⟩ := h.half y hy _ hm
      refine ⟨A, B ++ [(id, 0)], by rw [e, List.append_assoc], hA, fun q hq => ?_⟩
      rcases List.mem_append.1 hq with hq | hq
      · exact hB q hq
      · simp at hq; subst hq; rfl
theorem addR_one (xs : List K.Cl) (id : Int) (h : xs.length < 64) : K.addR xs [id] = xs ++ [(id, 0)] := by
  unfold K.addR
  rw [show 64 - xs.length = (63 - xs.length) + 1 by omega]
  simp
/-! ### A poll -/
theorem lfL_sub (g : Int) (xs : List K.Cl) : (K.lfL g xs).Sublist xs := List.dropWhile_sublist _
theorem tell_perm (g : Int) : ∀ R : List (List K.Cl), (K.tellL g R ++ (R.map (K.lfL g)).flatten.map (·.1)).Perm (R.flatten.map (·.1))
  | [] => .nil
  | xs :: R => by
    have ih := tell_perm g R
    have e1 : K.tellL g (xs :: R) = (K.dnL g xs).map (·.1) ++ K.tellL g R := rfl
    have e2 : xs.map (·.1) = (K.dnL g xs).map (·.1) ++ (K.lfL g xs).map (·.1) := by
      rw [← List.map_append]; exact congrArg _ (K.dn_lf g xs).symm
    rw [e1, List.map_cons, List.flatten_cons, List.map_append, List.flatten_cons, List.map_append, e2, List.append_assoc, List.append_assoc]
    refine List.Perm.append_left _ ?_
    refine List.Perm.trans ?_ (List.Perm.append_left _ ih)
    rw [← List.append_assoc, ← List.append_assoc]
    exact List.Perm.append_right _ List.perm_append_comm
/-- What a look does. -/
theorem look_cases (G : GSt) : (G.sc = none ∧ G.lookS = (G, [])) ∨ ∃ y, G.sc = some y ∧
    ((lenN (poll G.S y.2 16).left = 0 ∧ G.lookS = ({ G with sc := none, done := G.began, R := G.R.map (K.lfL G.began) }, K.tellL G.began G.R)) ∨ (lenN (poll G.S y.2 16).left ≠ 0 ∧ G.lookS = ({ G with sc := some (y.1, poll G.S y.2 16) }, []))) := by
  unfold GSt.lookS
  split
  · rename_i hs; exact .inl ⟨hs, rfl⟩
  · rename_i y hs
    refine .inr ⟨y, hs, ?_⟩
    by_cases e : lenN (poll G.S y.2 16).left = 0
    · rw [if_pos e]; exact .inl ⟨e, rfl⟩
    · rw [if_neg e]; exact .inr ⟨e, rfl⟩
theorem GOk.over {i : Nat} {G : GSt} {d : Nat} (h : GOk i G d) {y : Nat × ScSt} (hs : G.sc = some y) (h0 : lenN (poll G.S y.2 16).left = 0) : GOk i { G with sc := none, done := G.began, R := G.R.map (K.lfL G.began) } y.2.began := by
  obtain ⟨s1, s2, s3⟩ := h.scan y hs
  have hb := h.busy y hs
  have hd := h.d0
  have hp := (s3.polled 16).past h0
  rw [poll_beg] at hp
  refine ⟨h.sok, by simp [h.len], h.b0, h.b1, Int.le_refl _, fun _ => rfl, fun y hy => (nomatch hy), h.last, hp, s1, h.st, fun y hy => (nomatch hy), fun _ xs hx => ?_, fun y hy => (nomatch hy)⟩
  obtain ⟨zs, hz, rfl⟩ := List.mem_map.1 hx
  obtain ⟨A, B, rfl, hA, hB⟩ := h.half y hs zs hz
  rw [(half_split (show 0 < G.began by omega) hA hB).2]
  exact hB
theorem GOk.wait {i : Nat} {G : GSt} {d : Nat} (h : GOk i G d) {y : Nat × ScSt} (hs : G.sc = some y) : GOk i { G with sc := some (y.1, poll G.S y.2 16) } d := by
  obtain ⟨s1, s2, s3⟩ := h.scan y hs
  refine ⟨h.sok, h.len, h.d0, h.b1, h.dn, fun hn => (nomatch hn), fun z hz => h.busy y hs, h.last, h.d1, h.d2, h.st, fun z hz => ?_, fun hn => (nomatch hn), fun z hz => h.half y hs⟩
  obtain rfl := Option.some.inj hz
  refine ⟨by rw [poll_beg]; exact s1, by rw [poll_beg]; exact s2, s3.polled 16⟩
theorem closeL_mem {g : Int} {R : List (List K.Cl)} {xs : List K.Cl} (hx : xs ∈ K.closeL g R) : ∃ zs, zs ∈ R ∧ xs = zs.map (K.clo g) := by
  obtain ⟨zs, hz, rfl⟩ := List.mem_map.1 hx
  exact ⟨zs, hz, rfl⟩
theorem GOk.beg {i : Nat} {G : GSt} {d : Nat} (h : GOk i G d) (hs : G.sc = none) (x : Nat) : GOk (i + 1) (G.beg x) d := by
  have h1 := h.b1; have h2 := h.st; have h3 := h.d0; have h4 := h.idle hs; have h5 := h.d2
  refine ⟨h.sok, by simp [GSt.beg, K.closeL, h.len], h.d0, (by show G.began + 1 ≤ _; omega), (by show G.done ≤ G.began + 1; omega), fun hn => (nomatch hn), fun y _ => (by show G.done < G.began + 1; omega), Int.le_refl _, h.d1, h.d2, (by show G.S.st ≤ _; omega), fun y hy => ?_, fun hn => (nomatch hn), fun y _ xs hx => ?_⟩
  · obtain rfl := Option.some.inj hy
    exact ⟨Nat.le_refl _, h5, Wts.start h.sok⟩
  · obtain ⟨zs, hz, rfl⟩ := closeL_mem hx
    refine ⟨zs.map (K.clo (G.began + 1)), [], by simp, fun c hc => ?_, fun c hc => (nomatch hc)⟩
    obtain ⟨q, hq, rfl⟩ := List.mem_map.1 hc
    unfold K.clo
    rw [if_pos (h.open' hs zs hz q hq)]
    rfl
theorem beg_cases (G : GSt) (x : Nat) : (G.begS x = G ∧ (G.sc.isSome = true ∨ (K.openC G.R.flatten = 0 ∧ G.want ≤ G.began))) ∨ (G.sc = none ∧ ¬ (K.openC G.R.flatten = 0 ∧ G.want ≤ G.began) ∧ G.begS x = G.beg x) := by
  unfold GSt.begS
  by_cases e : G.sc.isSome = true ∨ (K.openC G.R.flatten = 0 ∧ G.want ≤ G.began)
  · rw [if_pos e]; exact .inl ⟨rfl, e⟩
  · rw [if_neg e]
    refine .inr ⟨?_, fun h => e (.inr h), rfl⟩
    cases hs : G.sc with
    | none => rfl
    | some y => rw [hs] at e; exact absurd (.inl rfl) e
theorem GOk.begS {i : Nat} {G : GSt} {d : Nat} (h : GOk i G d) (x : Nat) : GOk (i + 1) (G.begS x) d := by
  rcases beg_cases G x with ⟨e, _⟩ | ⟨hs, _, e⟩
  · rw [e]; exact h.up
  · rw [e]; exact h.beg hs x
theorem GOk.lookd {i : Nat} {G : GSt} {d : Nat} (h : GOk i G d) : ∃ d', GOk i G.lookS.1 d' ∧ d ≤ d' := by
  rcases look_cases G with ⟨_, e⟩ | ⟨y, hs, ⟨h0, e⟩ | ⟨_, e⟩⟩
  · rw [e]; exact ⟨d, h, Nat.le_refl _⟩
  · rw [e]; exact ⟨_, h.over hs h0, (h.scan y hs).2.1⟩
  · rw [e]; exact ⟨d, h.wait hs, Nat.le_refl _⟩
end Go.Proofs.YtefippjakkgjkaaDoor
