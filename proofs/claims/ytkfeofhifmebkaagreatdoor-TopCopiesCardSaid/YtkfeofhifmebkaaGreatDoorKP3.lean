/- The tops: a verified evaluator of the program (KP3). -/
import Derived.Test.YtkfeofhifmebkaaGreatDoorKI1
import Derived.Test.YtkfeofhifmebkaaGreatDoorKI2
import Derived.Test.YtkfeofhifmebkaaGreatDoorKP1
import Derived.Test.YtkfeofhifmebkaaGreatDoorKP2
import Derived.Test.YtkfeofhifmebkaaGreatDoorKA6
set_option maxRecDepth 100000
namespace Go.Ev
open Go Go.Proofs
/-- the intrinsics of the loop are true -/
theorem csF_sym (a b : Nat) (ps : List (Option Nat)) : cSym (csF a ps) = cSym (csF b ps) := by
  funext op k x j y
  unfold cSym cSym0 symAL symAA symShl byteOf at9 csF
  rfl
theorem NuOk.atF {c : Cs} {m : Nat → Nat} {ν : Nat → Int} (h : NuOk c m ν) {ps : List (Option Nat)} (hps : ∀ p s, p < 4 → getO ps p = some s → ν (10 + p) = s) : NuOk (csF c.a ps) m ν :=
  { h with
    ps := hps
    on := fun b e => by cases e
    hi := by have := h.hi; exact ⟨this.1, by show ν 51 ≤ 63; omega, Nat.le_refl _⟩
    r := fun v e => by cases e
    lt60 := fun b e => by cases e
    lt40 := fun b e => by cases e
    ltd := fun b e => by cases e
    g48 := fun b e => by cases e
    kd := fun v e => by cases e }
theorem noIntr {E : Env} (hE : E.intr = fun _ => Option.none) {ν : Nat → Int} {base : Nat} : IntrOk Tryz.prog E ν base := fun g x e => by rw [hE] at e; cases e
theorem sfA_ok {c : Cs} {m : Nat → Nat} {ν : Nat → Int} (h : NuOk c m ν) {ps : List (Option Nat)} (hps : ∀ p s, p < 4 → getO ps p = some s → ν (10 + p) = s) {base : Nat} : SelfOk Tryz.prog (envA c.a ps) ν base (sfA c.a ps) :=
  selfN_ok (eokC (h.at hps)) (noIntr rfl) _
theorem sfF_ok {c : Cs} {m : Nat → Nat} {ν : Nat → Int} (h : NuOk c m ν) {ps : List (Option Nat)} (hps : ∀ p s, p < 4 → getO ps p = some s → ν (10 + p) = s) {base : Nat} : SelfOk Tryz.prog (envF ps) ν base (sfF ps) := by
  refine selfN_ok ?_ (noIntr rfl) _
  have := eokC (h.atF hps) (glob := glob0f) (intr := fun _ => Option.none)
  rw [csF_sym c.a 0 ps] at this
  exact this
theorem runL_ok {E : Env} {sf : Self} {ν : Nat → Int} {base : Nat} (hS : SelfOk Tryz.prog E ν base sf) {f : FuncId} {args : List SV} {L : St} {chk : SV → St → Bool} (h : runL sf f args L chk = true) : ∃ v st', chk v st' = true ∧ CallLands Tryz.prog E ν base f args L v st' := by
  obtain ⟨out, h⟩ := isOkB_ok h
  obtain ⟨v, st', h, hl⟩ := hS.call h
  refine ⟨v, st', ?_, hl⟩
  split at h
  · assumption
  · cases h
theorem okW_ok {c : Cs} {m : Nat → Nat} {ν : Nat → Int} (hν : NuOk c m ν) {base : Nat} {L : St} {b n : Nat} (h : okW L c.a b n = true) : ∃ v st', okWv b n v = true ∧ subC L.heap st'.heap = true ∧ CallLands Tryz.prog (envA c.a []) ν base 26 [.ptr 1 0, .int .i64 (.lit (.ofNat b))] L v st' := by
  obtain ⟨out, h⟩ := isOkB_ok h
  obtain ⟨v, st', h, hl⟩ := (sfA_ok hν (ps := []) (fun p s _ e => by cases p <;> cases e) (base := base)).call h
  refine ⟨v, st', ?_, ?_, hl⟩
  · split at h
    · assumption
    · cases h
  · split at h
    · split at h
      · assumption
      · cases h
    · cases h

def lowA {α : Type} (m : Nat) : Nat → Nat → T α → Bool
  | _, _, .leaf => true
  | a, b, .node v l r => match (match v with
      | .none => true
      | .some _ => Nat.blt b m) with
    | true => match lowA m (2 * a) (a + b) l with
      | true => lowA m (2 * a) (2 * a + b) r
      | false => false
    | false => false
theorem lowA_ok {α : Type} {m : Nat} : ∀ {t : T α} {a b : Nat}, lowA m a b t = true → ∀ j y, getT t j = some y → a * j + b < m := by
  intro t
  induction t with
  | leaf => intro a b _ j y e; rw [getT_leaf] at e; cases e
  | node v l r ihl ihr =>
    intro a b h j y e
    simp only [lowA] at h
    split at h
    · rename_i g1
      split at h
      · rename_i g2
        rw [getT_node] at e
        cases j with
        | zero =>
          dsimp only at e
          subst e
          have : b < m := Nat.le_of_ble_eq_true g1
          rw [Nat.mul_zero, Nat.zero_add]; exact this
        | succ k =>
          dsimp only at e
          split at e
          · rename_i q
            have h1 := ihl g2 _ _ e
            have hk : k = 2 * (k / 2) := by omega
            have : a * (k + 1) = 2 * a * (k / 2) + a := by
              rw [Nat.mul_add, Nat.mul_one]; congr 1; conv => lhs; rw [hk]
              rw [← Nat.mul_assoc, Nat.mul_comm a 2]
            omega
          · rename_i q
            have h1 := ihr h _ _ e
            have hk : k = 2 * (k / 2) + 1 := by omega
            have : a * (k + 1) = 2 * a * (k / 2) + 2 * a := by
              have : k + 1 = 2 * (k / 2) + 2 := by omega
              rw [this, Nat.mul_add, ← Nat.mul_assoc, Nat.mul_comm a 2]
            omega
      · cases h
    · cases h
theorem part_ok {L st : St} (h1 : L.next = 3000) (h2 : lowT2 3000 L.heap = true) (h3 : lowA 3000 1 0 L.heap = true) (h4 : subC L.heap st.heap = true) : Part 3000 L st :=
  ⟨h1, lowT2_ok h2, fun n b e => by have := lowA_ok h3 n b e; omega, subC_ok h4⟩
theorem wordN_zero (m : Nat → Nat) : ∀ n s, 64 ≤ s → wordN (memB m) s n = 0 := by
  intro n
  induction n with
  | zero => intro s _; rfl
  | succ n ih =>
    intro s hs
    simp only [wordN]
    rw [ih (s + 1) (by omega)]
    simp only [memB]
    rw [if_neg (by omega)]
theorem okWv_ok {c : Cs} {m : Nat → Nat} {ν : Nat → Int} (h : NuOk c m ν) {b n : Nat} {v : SV} (e : okWv b n v = true) (hn : ν n = wordN (memB m) b 8) {σ : Sg} {V : Value} (k : Rep ν σ v V) : Rep ν σ (.int .u64 (.atom n)) V := by
  unfold okWv at e
  split at e
  · split at e
    · split at e
      · rename_i g; rw [← Nat.eq_of_beq_eq_true g]; exact k
      · split at e
        · rename_i g
          have hi := Nat.eq_of_beq_eq_true g
          have hb := Nat.eq_of_beq_eq_true e
          subst hi; subst hb
          simp only [Rep, SInt.val] at k ⊢
          rw [k, hn]
          have h1 := (h.byte 63 (by omega)).1
          have h2 : wordN (memB m) 63 8 = m 63 := by
            show memB m 63 + 256 * wordN (memB m) 64 7 = m 63
            rw [wordN_zero m 7 64 (by omega)]
            simp [memB]
          rw [h2, ← h1]
        · cases e
    · split at e
      · rename_i z g
        have hz := eqI_ok g
        have hb := Nat.le_of_ble_eq_true e
        simp only [Rep, SInt.val] at k ⊢
        rw [k, hn, wordN_zero m 8 b hb, hz]
        rfl
      · cases e
  · cases e
theorem lowC0 : lowT2 3000 locW0.heap = true ∧ lowT2 3000 locW1.heap = true ∧ lowT2 3000 locM0.heap = true ∧ lowT2 3000 locM1.heap = true ∧ lowT2 3000 (locK 0).heap = true ∧ lowT2 3000 (locK 1).heap = true := by
  refine ⟨?_, ?_, ?_, ?_, ?_, ?_⟩ <;> kernel_rfl
theorem lowC1 : lowA 3000 1 0 locW0.heap = true ∧ lowA 3000 1 0 locW1.heap = true ∧ lowA 3000 1 0 locM0.heap = true ∧ lowA 3000 1 0 locM1.heap = true ∧ lowA 3000 1 0 (locK 0).heap = true ∧ lowA 3000 1 0 (locK 1).heap = true := by
  refine ⟨?_, ?_, ?_, ?_, ?_, ?_⟩ <;> kernel_rfl
theorem envC_free {c : Cs} {kind tk oc : Nat} : GlobFree (envC c kind tk oc) := fun g cs e => glob0_free g cs e

theorem word_lands {c : Cs} {m : Nat → Nat} {ν : Nat → Int} (h : NuOk c m ν) {base : Nat} {E : Env} (hg : E.glob = glob0f) {st : St} {L : St} (p : Part 3000 L st) {i b n : Nat} (hi : ν i = b) (hw : okW L c.a b n = true) (hn : ν n = wordN (memB m) b 8) :
    CallLands Tryz.prog E ν base 26 [.ptr 1 0, .int .i64 (.atom i)] st (.int .u64 (.atom n)) st := by
  obtain ⟨v, st', h1, h2, h3⟩ := okW_ok h hw (base := base)
  refine h3.part hg.symm (fun g cs e => glob0_free g cs (by rw [hg] at e; exact e)) (N := 3000) (fun σ l hl => ?_) rfl ?_ (fun σ V k => okWv_ok h h1 hn k) p (subC_ok h2)
  · simp only [RepL, Rep, SInt.val] at hl ⊢
    rw [hi] at hl
    exact hl
  · unfold okWv at h1
    split at h1
    · rfl
    · cases h1
theorem wordI_ok {c : Cs} {m : Nat → Nat} {ν : Nat → Int} (h : NuOk c m ν) {E : Env} (hg : E.glob = glob0f) {base : Nat} {args : List SV} {st : St} {k : SV → St → R} {fb : Unit → R} {out} (e : wordI.run args st k fb = .ok out) :
    (∃ v st', k v st' = .ok out ∧ CallLands Tryz.prog E ν base 26 args st v st') ∨ fb () = .ok out := by
  unfold wordI at e
  dsimp only at e
  split at e
  case h_2 => exact .inr e
  rename_i x y
  split at e
  case h_2 => exact .inr e
  rename_i g1
  have hx := beqSV_ok _ _ g1
  subst hx
  split at e
  case h_2 => exact .inr e
  rename_i g2
  have key : ∀ (i b n : Nat), ν i = b → ν n = wordN (memB m) b 8 → okW locW0 c.a b n = true → okW locW1 c.a b n = true → CallLands Tryz.prog E ν base 26 [.ptr 1 0, .int .i64 (.atom i)] st (.int .u64 (.atom n)) st := by
    intro i b n hi hn w0 w1
    split at g2
    · rename_i g
      exact word_lands h hg (part_ok rfl lowC0.1 lowC1.1 g) hi w0 hn
    · exact word_lands h hg (part_ok rfl lowC0.2.1 lowC1.2.1 g2) hi w1 hn
  split at e
  · rename_i g3
    have hy := beqSV_ok _ _ g3
    subst hy
    refine .inl ⟨_, _, e, key 9 c.a 400 h.nine (h.part 0 (by omega)) ?_ ?_⟩
    · exact allN_ok word_all0 _ h.a70
    · exact allN_ok word_all1 _ h.a70
  · split at e
    · rename_i g3
      have hy := beqSV_ok _ _ g3
      subst hy
      refine .inl ⟨_, _, e, key 19 (c.a + 8) 408 (by rw [h.addr8]; push_cast; rfl) (h.part 8 (by omega)) ?_ ?_⟩
      · exact allN_ok (f := fun a => okW locW0 a (a + 8) 408) word_all08 _ h.a70
      · exact allN_ok (f := fun a => okW locW1 a (a + 8) 408) word_all18 _ h.a70
    · exact .inr e
end Go.Ev
set_option maxRecDepth 100000
namespace Go.Ev
open Go Go.Proofs
theorem beqSVs_eq {a b : List SV} (h : beqSVs a b = true) : a = b := beqSVs_ok _ _ h
theorem and3_ok {a b c : Bool} (h : and3 a b c = true) : a = true ∧ b = true ∧ c = true := by
  cases a <;> cases b <;> cases c <;> first | exact ⟨rfl, rfl, rfl⟩ | cases h
/-- what Touch answers -/
def TouchOk (a : Nat) (ν : Nat → Int) (tk : Nat) : Prop :=
  (tk = 3 ∧ 48 < a) ∨ (a ≤ 48 ∧
    ((tk = 1 ∧ ν (10 + a / 16) = 0 ∧ ν 56 = ((a / 16 : Nat) : Int)) ∨ (tk = 2 ∧ ν (10 + a / 16) = 2 ∧ ν 56 = ((a / 16 : Nat) : Int)) ∨
      (ν (10 + a / 16) = 1 ∧ ((tk = 0 ∧ ν (10 + (a + 15) / 16) = 1) ∨ (tk = 1 ∧ ν (10 + (a + 15) / 16) = 0 ∧ ν 56 = (((a + 15) / 16 : Nat) : Int)) ∨
        (tk = 2 ∧ ν (10 + (a + 15) / 16) = 2 ∧ ν 56 = (((a + 15) / 16 : Nat) : Int))))))
theorem pst_ok {ν : Nat → Int} {p s q t : Nat} (hp : ν (10 + p) = s) (hq : ν (10 + q) = t) : ∀ i r, i < 4 → getO (pst p s q t) i = some r → ν (10 + i) = r := by
  have key : ∀ i r, (match Nat.beq i p with
    | true => some s
    | false => match Nat.beq i q with
      | true => some t
      | false => Option.none) = some r → ν (10 + i) = r := by
    intro i r e
    split at e
    · rename_i g
      have := Nat.eq_of_beq_eq_true g
      subst this
      cases e; exact hp
    · split at e
      · rename_i g
        have := Nat.eq_of_beq_eq_true g
        subst this
        cases e; exact hq
      · cases e
  intro i r hi e
  match i, hi with
  | 0, _ => exact key 0 r e
  | 1, _ => exact key 1 r e
  | 2, _ => exact key 2 r e
  | 3, _ => exact key 3 r e
theorem tVal_conv {ν : Nat → Int} {σ : Sg} {tk pg : Nat} {V : Value} (ht : tk = 1 ∨ tk = 2 → ν 56 = pg) (k : Rep ν σ (tVal tk pg) V) : Rep ν σ (touchR tk) V := by
  match tk with
  | 0 => exact k
  | 1 =>
    simp only [tVal, touchR, Rep, RepL, SInt.val] at k ⊢
    rw [ht (.inl rfl)]; exact k
  | 2 =>
    simp only [tVal, touchR, Rep, RepL, SInt.val] at k ⊢
    rw [ht (.inr rfl)]; exact k
  | n + 3 => exact k
theorem tVal_low (tk pg : Nat) : lowV 0 (tVal tk pg) = true := by
  unfold tVal; split <;> rfl
theorem touch_lands {c : Cs} {m : Nat → Nat} {ν : Nat → Int} (h : NuOk c m ν) {base : Nat} {E : Env} (hg : E.glob = glob0f) {st : St} (p : Part 3000 locM0 st) {ps : List (Option Nat)} (hps : ∀ p s, p < 4 → getO ps p = some s → ν (10 + p) = s) {tk pg : Nat} (hw : okT c.a ps tk pg = true)
    (ht : tk = 1 ∨ tk = 2 → ν 56 = pg) : CallLands Tryz.prog E ν base 567 [.ptr 6 0, .int .i64 (.atom 9), .int .i64 (.lit 16)] st (touchR tk) st := by
  obtain ⟨v, st', h1, h3⟩ := runL_ok (sfA_ok h hps (base := base)) hw
  split at h1
  case h_2 => cases h1
  rename_i g
  have hv := beqSV_ok _ _ g
  subst hv
  refine h3.part hg.symm (fun g cs e => glob0_free g cs (by rw [hg] at e; exact e)) (N := 3000) (fun σ l hl => ?_) rfl ?_ (fun σ V k => ?_) p (subC_ok h1)
  · simp only [RepL, Rep, SInt.val] at hl ⊢
    rw [h.nine] at hl
    exact hl
  · exact tVal_low tk pg
  · exact tVal_conv ht k
theorem touchI_ok {c : Cs} {m : Nat → Nat} {ν : Nat → Int} (h : NuOk c m ν) {tk : Nat} (ht : TouchOk c.a ν tk) {E : Env} (hg : E.glob = glob0f) {base : Nat} {args : List SV} {st : St} {k : SV → St → R} {fb : Unit → R} {out} (e : (touchI tk).run args st k fb = .ok out) :
    (∃ v st', k v st' = .ok out ∧ CallLands Tryz.prog E ν base 567 args st v st') ∨ fb () = .ok out := by
  unfold touchI at e
  dsimp only at e
  split at e
  case h_2 => exact .inr e
  rename_i g1
  have hx := beqSVs_eq g1
  subst hx
  split at e
  case h_2 => exact .inr e
  rename_i g2
  have p : Part 3000 locM0 st := part_ok rfl lowC0.2.2.1 lowC1.2.2.1 g2
  have hall := allN_ok touch_all _ h.a70
  unfold okTA at hall
  refine .inl ⟨_, _, e, ?_⟩
  have none_ps : ∀ p s, p < 4 → getO ([] : List (Option Nat)) p = some s → ν (10 + p) = s := fun p s _ e => by cases p <;> cases e
  rcases ht with ⟨rfl, ha⟩ | ⟨ha, ht⟩
  · rw [show Nat.ble c.a 48 = false from by cases hb : Nat.ble c.a 48 with
      | true => have := Nat.le_of_ble_eq_true hb; omega
      | false => rfl] at hall
    exact touch_lands h hg p none_ps hall (fun h => by omega)
  · rw [show Nat.ble c.a 48 = true from Nat.ble_eq_true_of_le ha] at hall
    obtain ⟨w1, w2, w3⟩ := and3_ok hall
    rcases ht with ⟨rfl, s1, s2⟩ | ⟨rfl, s1, s2⟩ | ⟨s1, ht⟩
    · exact touch_lands h hg p (pst_ok s1 s1) w1 (fun _ => s2)
    · exact touch_lands h hg p (pst_ok s1 s1) w2 (fun _ => s2)
    · split at w3
      · rename_i g
        have hp := Nat.eq_of_beq_eq_true g
        rw [← hp] at ht
        rcases ht with ⟨rfl, s2⟩ | ⟨rfl, s2, s3⟩ | ⟨rfl, s2, s3⟩
        · exact touch_lands h hg p (pst_ok s1 s1) w3 (fun h => by omega)
        · rw [s1] at s2; cases s2
        · rw [s1] at s2; cases s2
      · obtain ⟨w4, w5, w6⟩ := and3_ok w3
        rcases ht with ⟨rfl, s2⟩ | ⟨rfl, s2, s3⟩ | ⟨rfl, s2, s3⟩
        · exact touch_lands h hg p (pst_ok s1 s2) w4 (fun h => by omega)
        · exact touch_lands h hg p (pst_ok s1 s2) w5 (fun _ => s3)
        · exact touch_lands h hg p (pst_ok s1 s2) w6 (fun _ => s3)
/-- rows of bytes that are the same -/
theorem rowAt_conv {ν : Nat → Int} : ∀ (n s t : Nat), (∀ j, j < n → ν (s + j) = ν (t + j)) → ∀ σ L, RepL ν σ (rowAt s n) L → RepL ν σ (rowAt t n) L := by
  intro n
  induction n with
  | zero => intro s t _ σ L k; exact k
  | succ n ih =>
    intro s t hst σ L k
    simp only [rowAt, RepL, Rep, SInt.val] at k ⊢
    obtain ⟨V, Us, rfl, rfl, k⟩ := k
    refine ⟨_, Us, rfl, ?_, ih (s + 1) (t + 1) (fun j hj => by have := hst (j + 1) (by omega); rw [show s + 1 + j = s + (j + 1) by omega, show t + 1 + j = t + (j + 1) by omega]; exact this) σ Us k⟩
    have := hst 0 (by omega)
    simp only [Nat.add_zero] at this
    rw [this]
theorem peekI_ok {c : Cs} {m : Nat → Nat} {ν : Nat → Int} (h : NuOk c m ν) (ht : TouchOk c.a ν 0) {E : Env} (hg : E.glob = glob0f) {base : Nat} {args : List SV} {st : St} {k : SV → St → R} {fb : Unit → R} {out} (e : peekI.run args st k fb = .ok out) :
    (∃ v st', k v st' = .ok out ∧ CallLands Tryz.prog E ν base 68 args st v st') ∨ fb () = .ok out := by
  have ha : c.a ≤ 48 := by
    rcases ht with ⟨h1, h2⟩ | h1
    · omega
    · exact h1.1
  unfold peekI at e
  dsimp only at e
  split at e
  case h_2 => exact .inr e
  rename_i g1
  have hx := beqSVs_eq g1
  subst hx
  split at e
  case h_2 => exact .inr e
  rename_i g2
  have p : Part 3000 locM0 st := part_ok rfl lowC0.2.2.1 lowC1.2.2.1 g2
  have hall : okP c.a = true := allN_ok peek_all _ (by omega)
  obtain ⟨v, st', h1, h3⟩ := runL_ok (sfA_ok h (ps := []) (fun p s _ e => by cases p <;> cases e) (base := base)) hall
  obtain ⟨st1, e, hn, hh⟩ := newK_ok e
  refine .inl ⟨_, st1, e, ?_⟩
  split at h1
  case h_2 => cases h1
  rename_i n x
  split at h1
  case h_2 => cases h1
  rename_i gx
  have hx := beqSV_ok _ _ gx
  subst hx
  split at h1
  case h_2 => cases h1
  rename_i gn
  have hn0 := Nat.le_of_ble_eq_true gn
  split at h1
  case h_2 => cases h1
  rename_i cs gb
  split at h1
  case h_2 => cases h1
  rename_i gc
  have hc := beqSVs_eq gc
  subst hc
  refine h3.partRow hg.symm (fun g cs e => glob0_free g cs (by rw [hg] at e; exact e)) (N := 3000) (fun σ l hl => ?_) rfl rfl gb ?_ (fun σ L k => ?_) p hn0 (subC_ok h1) hn hh
  · simp only [RepL, Rep, SInt.val] at hl ⊢
    rw [h.nine] at hl
    exact hl
  · rfl
  · refine rowAt_conv 16 (100 + c.a) 300 (fun j hj => ?_) σ L k
    rw [(h.row j hj).1, show 100 + c.a + j = 100 + (c.a + j) by omega, (h.byte (c.a + j) (by omega)).1]
    simp only [memB]
    rw [if_pos (by omega)]
end Go.Ev
set_option maxRecDepth 100000
namespace Go.Ev
open Go Go.Proofs
theorem heapWith_get (L : St) (n : Nat) (b : AB) (m : Nat) : getT (heapWith L n b) m = if m = n then some b else getT L.heap m := by
  obtain ⟨t', h1, h2⟩ := setTK_spec L.heap n (some b) (fun h => h)
  unfold heapWith
  rw [h1]
  exact h2 m
theorem cbM_cells (i : Nat) : ∃ x l t, cbM i = .cells (x :: .int .i64 (.atom 10) :: .int .i64 (.atom 11) :: .int .i64 (.atom 12) :: .int .i64 (.atom 13) :: l) t := by
  match i with
  | 0 => exact ⟨_, _, _, rfl⟩
  | n + 1 => exact ⟨_, _, _, rfl⟩
theorem pg_conv {x : SV} {l : List SV} {t : TypeId} {ν : Nat → Int} {p s : Nat} (hp : p < 4) (hq : ∀ q, q < 4 → ν (200 + q) = if q = p then (s : Int) else ν (10 + q)) {σ : Sg} {z : Nat} {o : Obj}
    (k : (pgL (.cells (x :: .int .i64 (.atom 10) :: .int .i64 (.atom 11) :: .int .i64 (.atom 12) :: .int .i64 (.atom 13) :: l) t) p s).Is Tryz.prog ν σ z o) :
    (pgB (.cells (x :: .int .i64 (.atom 10) :: .int .i64 (.atom 11) :: .int .i64 (.atom 12) :: .int .i64 (.atom 13) :: l) t)).Is Tryz.prog ν σ z o := by
  have q0 := hq 0 (by omega)
  have q1 := hq 1 (by omega)
  have q2 := hq 2 (by omega)
  have q3 := hq 3 (by omega)
  have e0 : ν 200 = _ := q0
  have e1 : ν 201 = _ := q1
  have e2 : ν 202 = _ := q2
  have e3 : ν 203 = _ := q3
  obtain ⟨C, h1, h2⟩ := k
  refine ⟨C, h1, ?_⟩
  match p, hp with
  | 0, _ =>
    simp at e0 e1 e2 e3
    simp only [List.set, RepL, Rep, SInt.val] at h2 ⊢
    rw [e0, e1, e2, e3]; exact h2
  | 1, _ =>
    simp at e0 e1 e2 e3
    simp only [List.set, RepL, Rep, SInt.val] at h2 ⊢
    rw [e0, e1, e2, e3]; exact h2
  | 2, _ =>
    simp at e0 e1 e2 e3
    simp only [List.set, RepL, Rep, SInt.val] at h2 ⊢
    rw [e0, e1, e2, e3]; exact h2
  | 3, _ =>
    simp at e0 e1 e2 e3
    simp only [List.set, RepL, Rep, SInt.val] at h2 ⊢
    rw [e0, e1, e2, e3]; exact h2
theorem cbM_at0 : getT locM0.heap 6 = some cb32 := by kernel_rfl
theorem cbM_at1 : getT locM1.heap 6 = some cb87 := by kernel_rfl
theorem cbM_at (i : Nat) : getT (locM i).heap 6 = some (cbM i) := by
  match i with
  | 0 => exact cbM_at0
  | n + 1 => exact cbM_at1
theorem cbM_low (i p s : Nat) (hp : p < 4) : lowB 3000 (pgL (cbM i) p s) = true := by
  match i, p, hp with
  | 0, 0, _ => rfl
  | 0, 1, _ => rfl
  | 0, 2, _ => rfl
  | 0, 3, _ => rfl
  | n + 1, 0, _ => rfl
  | n + 1, 1, _ => rfl
  | n + 1, 2, _ => rfl
  | n + 1, 3, _ => rfl
/-- what becomes of a page -/
def PageOk (kind oc : Nat) (ν : Nat → Int) : Prop := ∃ p s, p < 4 ∧ s < 3 ∧ ν 51 = ((p : Nat) : Int) ∧ ν (10 + p) = ((s : Nat) : Int) ∧ (pgSpec kind s).1 = oc ∧
  (oc = 0 → ∀ q, q < 4 → ν (200 + q) = if q = p then (((pgSpec kind s).2 : Nat) : Int) else ν (10 + q))
theorem locM_part {i : Nat} {st : St} (h : subC (locM i).heap st.heap = true) : Part 3000 (locM i) st := by
  match i with
  | 0 => exact part_ok rfl lowC0.2.2.1 lowC1.2.2.1 h
  | n + 1 => exact part_ok rfl lowC0.2.2.2.1 lowC1.2.2.2.1 h
theorem okPgs_at {i kind : Nat} (hi : i < 2) (hk : kind = 2 ∨ kind = 3 ∨ kind = 4) {p s : Nat} (hp : p < 4) (hs : s < 3) : okPg i kind p s = true := by
  obtain ⟨w2, w3, w4⟩ := and3_ok pages_all
  have f : okPgs i kind = true := by
    rcases hk with rfl | rfl | rfl
    · exact allN_ok (f := fun i => okPgs i 2) w2 i hi
    · exact allN_ok (f := fun i => okPgs i 3) w3 i hi
    · exact allN_ok (f := fun i => okPgs i 4) w4 i hi
  exact allN_ok (f := fun s => okPg i kind p s) (allN_ok (f := fun p => allN 3 fun s => okPg i kind p s) f p hp) s hs
theorem page_run {c : Cs} {m : Nat → Nat} {ν : Nat → Int} (h : NuOk c m ν) {base i kind p s : Nat} (hi : i < 2) (hk : kind = 2 ∨ kind = 3 ∨ kind = 4) (hp : p < 4) (hs : s < 3) (hps : ν (10 + p) = s) :
    ∃ st', CallLands Tryz.prog (envF (pst p s p s)) ν base (pgF kind) [.ptr 6 0, .int .i64 (.lit (.ofNat p))] (locM i) (.int .i64 (.lit (.ofNat (pgSpec kind s).1))) st' ∧
      (match (pgSpec kind s).1 with
      | 0 => subC (heapWith (locM i) 6 (pgL (cbM i) p (pgSpec kind s).2)) st'.heap
      | _ => subC (locM i).heap st'.heap) = true := by
  obtain ⟨v, st', h1, h3⟩ := runL_ok (sfF_ok h (pst_ok hps hps) (base := base)) (okPgs_at hi hk hp hs)
  generalize pgSpec kind s = w at *
  obtain ⟨oc, s'⟩ := w
  dsimp only at h1 ⊢
  split at h1
  case h_2 => cases h1
  rename_i g
  have hv := beqSV_ok _ _ g
  subst hv
  exact ⟨st', h3, h1⟩
theorem page_lands0 {c : Cs} {m : Nat → Nat} {ν : Nat → Int} (h : NuOk c m ν) {base : Nat} {E : Env} (hg : E.glob = glob0f) {st st1 : St} {i kind : Nat} (hi : i < 2) (hk : kind = 2 ∨ kind = 3 ∨ kind = 4) (p : Part 3000 (locM i) st) (hpg : PageOk kind 0 ν)
    (hnext : st1.next = st.next) (hh : ∀ m, getT st1.heap m = if m = 6 then some (pgB (cbM i)) else getT st.heap m) :
    CallLands Tryz.prog E ν base (pgF kind) [.ptr 6 0, .int .i64 (.atom 51)] st (.int .i64 (.lit 0)) st1 := by
  obtain ⟨pg, s, hp, hs, e1, e2, e3, e4⟩ := hpg
  obtain ⟨st', h3, h1⟩ := page_run h (base := base) hi hk hp hs e2
  rw [e3] at h1 h3
  have h1 : subC (heapWith (locM i) 6 (pgL (cbM i) pg (pgSpec kind s).2)) st'.heap = true := h1
  have hsub := subC_ok h1
  refine h3.partSet hg.symm (fun g cs e => glob0_free g cs (by rw [hg] at e; exact e)) (N := 3000) (fun σ l hl => ?_) rfl rfl (fun σ V k => k) p (cbM_at i) (b1' := pgL (cbM i) pg (pgSpec kind s).2) (b1 := pgB (cbM i)) (hsub 6 _ (by rw [heapWith_get, if_pos rfl])) (cbM_low i pg _ hp) (fun σ z o k => ?_)
    (fun n b hn e => hsub n b (by rw [heapWith_get, if_neg hn]; exact e)) hnext hh
  · simp only [RepL, Rep, SInt.val] at hl ⊢
    rw [e1] at hl
    exact hl
  · obtain ⟨x, l, t, e⟩ := cbM_cells i
    rw [e] at k ⊢
    exact pg_conv hp (e4 rfl) k
theorem page_landsN {c : Cs} {m : Nat → Nat} {ν : Nat → Int} (h : NuOk c m ν) {base : Nat} {E : Env} (hg : E.glob = glob0f) {st : St} {i kind oc : Nat} (hi : i < 2) (hk : kind = 2 ∨ kind = 3 ∨ kind = 4) (p : Part 3000 (locM i) st) (hoc : oc ≠ 0) (hpg : PageOk kind oc ν) :
    CallLands Tryz.prog E ν base (pgF kind) [.ptr 6 0, .int .i64 (.atom 51)] st (.int .i64 (.lit (.ofNat oc))) st := by
  obtain ⟨pg, s, hp, hs, e1, e2, e3, e4⟩ := hpg
  obtain ⟨st', h3, h1⟩ := page_run h (base := base) hi hk hp hs e2
  rw [e3] at h1 h3
  have hsub : subC (locM i).heap st'.heap = true := by
    cases oc with
    | zero => exact absurd rfl hoc
    | succ n => exact h1
  refine h3.part hg.symm (fun g cs e => glob0_free g cs (by rw [hg] at e; exact e)) (N := 3000) (fun σ l hl => ?_) rfl rfl (fun σ V k => k) p (subC_ok hsub)
  simp only [RepL, Rep, SInt.val] at hl ⊢
  rw [e1] at hl
  exact hl
theorem pageI_ok {c : Cs} {m : Nat → Nat} {ν : Nat → Int} (h : NuOk c m ν) {kind oc : Nat} (hk : kind = 2 ∨ kind = 3 ∨ kind = 4) (hpg : PageOk kind oc ν) {E : Env} (hg : E.glob = glob0f) {base : Nat} {args : List SV} {st : St} {k : SV → St → R} {fb : Unit → R} {out} (e : (pageI oc).run args st k fb = .ok out) :
    (∃ v st', k v st' = .ok out ∧ CallLands Tryz.prog E ν base (pgF kind) args st v st') ∨ fb () = .ok out := by
  unfold pageI at e
  dsimp only at e
  split at e
  case h_2 => exact .inr e
  rename_i g1
  have hx := beqSVs_eq g1
  subst hx
  split at e
  · split at e
    · rename_i g2
      obtain ⟨st1, e, hn, hh⟩ := setK_ok e
      exact .inl ⟨_, st1, e, page_lands0 h hg (i := 0) (by omega) hk (locM_part (i := 0) g2) hpg hn hh⟩
    · split at e
      · rename_i g2
        obtain ⟨st1, e, hn, hh⟩ := setK_ok e
        exact .inl ⟨_, st1, e, page_lands0 h hg (i := 1) (by omega) hk (locM_part (i := 1) g2) hpg hn hh⟩
      · exact .inr e
  · rename_i hoc
    split at e
    case h_2 => exact .inr e
    rename_i g2
    refine .inl ⟨_, _, e, ?_⟩
    split at g2
    · rename_i g3
      exact page_landsN h hg (i := 0) (by omega) hk (locM_part (i := 0) g3) (fun e => hoc e) hpg
    · exact page_landsN h hg (i := 1) (by omega) hk (locM_part (i := 1) g2) (fun e => hoc e) hpg

/-- what becomes of a byte -/
def PokeOk (ν : Nat → Int) : Prop := ∃ j, j < 64 ∧ ν 51 = ((j : Nat) : Int) ∧ ∀ q, q < 64 → ν (210 + q) = if q = j then ν 50 else ν (100 + q)
theorem rowAt_set {ν : Nat → Int} : ∀ (n s t : Nat) (j : Nat) (x : Nat), (∀ q, q < n → ν (t + q) = if q = j then ν x else ν (s + q)) → ∀ σ L, RepL ν σ ((rowAt s n).set j (.int .u8 (.atom x))) L → RepL ν σ (rowAt t n) L := by
  intro n
  induction n with
  | zero => intro s t j x _ σ L k; exact k
  | succ n ih =>
    intro s t j x hst σ L k
    cases j with
    | zero =>
      simp only [rowAt, List.set, RepL, Rep, SInt.val] at k ⊢
      obtain ⟨V, Us, rfl, rfl, k⟩ := k
      refine ⟨_, Us, rfl, ?_, rowAt_conv n (s + 1) (t + 1) (fun q hq => ?_) σ Us k⟩
      · have := hst 0 (by omega)
        rw [if_pos rfl] at this
        simp only [Nat.add_zero] at this
        rw [this]
      · have := hst (q + 1) (by omega)
        rw [if_neg (by omega)] at this
        rw [show s + 1 + q = s + (q + 1) by omega, show t + 1 + q = t + (q + 1) by omega]; exact this.symm
    | succ j =>
      simp only [rowAt, List.set, RepL, Rep, SInt.val] at k ⊢
      obtain ⟨V, Us, rfl, rfl, k⟩ := k
      refine ⟨_, Us, rfl, ?_, ih (s + 1) (t + 1) j x (fun q hq => ?_) σ Us k⟩
      · have := hst 0 (by omega)
        rw [if_neg (by omega)] at this
        simp only [Nat.add_zero] at this
        rw [this]
      · have := hst (q + 1) (by omega)
        rw [show s + 1 + q = s + (q + 1) by omega, show t + 1 + q = t + (q + 1) by omega, this]
        by_cases g : q = j
        · rw [if_pos (by omega), if_pos g]
        · rw [if_neg (by omega), if_neg g]
theorem bytes_at0 : getT (locK 0).heap 17 = some (.cells (rowAt 100 64) 5) := by kernel_rfl
theorem bytes_at1 : getT (locK 1).heap 16 = some (.cells (rowAt 100 64) 5) := by kernel_rfl
theorem bytes_at (i : Nat) : getT (locK i).heap (bytesN i) = some (.cells (rowAt 100 64) 5) := by
  match i with
  | 0 => exact bytes_at0
  | n + 1 => exact bytes_at1
theorem low_row0 (N : Nat) : ∀ (n s : Nat), lowVs N (rowAt s n) = true := by
  intro n
  induction n with
  | zero => intro s; rfl
  | succ n ih => intro s; exact ih (s + 1)
theorem rawT_at : getT rawT 2990 = some (.cells [.int .u8 (.atom 50)] 5) := by kernel_rfl
theorem low_row (N : Nat) : ∀ (n s j : Nat) (x : Nat), lowVs N ((rowAt s n).set j (.int .u8 (.atom x))) = true := by
  intro n
  induction n with
  | zero => intro s j x; rfl
  | succ n ih =>
    intro s j x
    cases j with
    | zero =>
      exact low_row0 N n (s + 1)
    | succ j => exact ih (s + 1) j x
theorem locK_part {i : Nat} (hi : i < 2) {st : St} (h : subC rawT st.heap = true) (h2 : subC (locM i).heap st.heap = true) : Part 3000 (locK i) st := by
  have low : lowT2 3000 (locK i).heap = true := by
    match i, hi with
    | 0, _ => exact lowC0.2.2.2.2.1
    | 1, _ => exact lowC0.2.2.2.2.2
  have low1 : lowA 3000 1 0 (locK i).heap = true := by
    match i, hi with
    | 0, _ => exact lowC1.2.2.2.2.1
    | 1, _ => exact lowC1.2.2.2.2.2
  refine ⟨rfl, lowT2_ok low, fun n b e => by have := lowA_ok low1 n b e; omega, fun n b e => ?_⟩
  have e2 : getT (heapWith (locM i) 2990 (.cells [.int .u8 (.atom 50)] 5)) n = some b := e
  clear e
  rw [heapWith_get] at e2
  split at e2
  · rename_i g
    rw [g, ← e2]
    exact subC_ok h 2990 _ rawT_at
  · exact subC_ok h2 n b e2
theorem poke_lands {c : Cs} {m : Nat → Nat} {ν : Nat → Int} (h : NuOk c m ν) {base : Nat} {E : Env} (hg : E.glob = glob0f) {st st1 : St} {i : Nat} (hi : i < 2) (p : Part 3000 (locK i) st) (hpk : PokeOk ν)
    (hnext : st1.next = st.next) (hh : ∀ m, getT st1.heap m = if m = bytesN i then some (.cells (rowAt 210 64) 5) else getT st.heap m) :
    CallLands Tryz.prog E ν base 108 [.ptr 6 0, .int .i64 (.atom 51), .slc 2990 0 (.lit 1) (some 1)] st (.int .i64 (.lit 0)) st1 := by
  obtain ⟨j, hj, e1, e4⟩ := hpk
  have hall : okK i j = true := allN_ok (f := fun j => okK i j) (allN_ok (f := fun i => allN 64 fun j => okK i j) poke_all i hi) j hj
  obtain ⟨v, st', h1, h3⟩ := runL_ok (sfF_ok h (ps := []) (fun p s _ e => by cases p <;> cases e) (base := base)) hall
  split at h1
  case h_2 => cases h1
  rename_i g
  have hv := beqSV_ok _ _ g
  subst hv
  have hsub := subC_ok h1
  refine h3.partSet hg.symm (fun g cs e => glob0_free g cs (by rw [hg] at e; exact e)) (N := 3000) (fun σ l hl => ?_) rfl rfl (fun σ V k => k) p (bytes_at i) (b1' := pkL j) (b1 := .cells (rowAt 210 64) 5) (hsub _ _ (by rw [heapWith_get, if_pos rfl])) (low_row 3000 64 100 j 50) (fun σ z o k => ?_)
    (fun n b hn e => hsub n b (by rw [heapWith_get, if_neg hn]; exact e)) hnext hh
  · simp only [RepL, Rep, SInt.val] at hl ⊢
    rw [e1] at hl
    exact hl
  · obtain ⟨C, k1, k2⟩ := k
    exact ⟨C, k1, rowAt_set 64 100 210 j 50 e4 σ _ k2⟩
theorem pokeI_ok {c : Cs} {m : Nat → Nat} {ν : Nat → Int} (h : NuOk c m ν) (hpk : PokeOk ν) {E : Env} (hg : E.glob = glob0f) {base : Nat} {args : List SV} {st : St} {k : SV → St → R} {fb : Unit → R} {out} (e : pokeI.run args st k fb = .ok out) :
    (∃ v st', k v st' = .ok out ∧ CallLands Tryz.prog E ν base 108 args st v st') ∨ fb () = .ok out := by
  unfold pokeI at e
  dsimp only at e
  split at e
  case h_2 => exact .inr e
  rename_i g1
  have hx := beqSVs_eq g1
  subst hx
  split at e
  case h_2 => exact .inr e
  rename_i g0
  split at e
  · rename_i g2
    obtain ⟨st1, e, hn, hh⟩ := setK_ok e
    exact .inl ⟨_, st1, e, poke_lands h hg (i := 0) (by omega) (locK_part (i := 0) (by omega) g0 g2) hpk hn hh⟩
  · split at e
    · rename_i g2
      obtain ⟨st1, e, hn, hh⟩ := setK_ok e
      exact .inl ⟨_, st1, e, poke_lands h hg (i := 1) (by omega) (locK_part (i := 1) (by omega) g0 g2) hpk hn hh⟩
    · exact .inr e
/-- all the intrinsics of the loop -/
theorem intrC_ok {c : Cs} {m : Nat → Nat} {ν : Nat → Int} (h : NuOk c m ν) {kind tk oc : Nat} (ht : tk ≤ 3 → TouchOk c.a ν tk) (hpg : kind = 2 ∨ kind = 3 ∨ kind = 4 → PageOk kind oc ν) (hpk : kind = 5 → PokeOk ν) {base : Nat} : IntrOk Tryz.prog (envC c kind tk oc) ν base := by
  intro g x hx args st k fb out e
  have hg : (envC c kind tk oc).glob = glob0f := rfl
  have hx : intrC kind tk oc g = some x := hx
  unfold intrC at hx
  split at hx
  · cases hx; exact afterI_ok (fun a j b e => cLog_ok h a j b e) e
  · cases hx; exact wordI_ok h hg e
  · split at hx
    · rename_i g
      cases hx; exact touchI_ok h (ht (Nat.le_of_ble_eq_true g)) hg e
    · cases hx
  · split at hx
    · rename_i g
      have := Nat.eq_of_beq_eq_true g
      subst this
      cases hx; exact peekI_ok h (ht (by omega)) hg e
    · cases hx
  · split at hx
    · rename_i g
      have := Nat.eq_of_beq_eq_true g
      subst this
      cases hx; exact pageI_ok h (.inl rfl) (hpg (.inl rfl)) hg e
    · cases hx
  · split at hx
    · rename_i g
      have := Nat.eq_of_beq_eq_true g
      subst this
      cases hx; exact pageI_ok h (.inr (.inr rfl)) (hpg (.inr (.inr rfl))) hg e
    · cases hx
  · split at hx
    · rename_i g
      have := Nat.eq_of_beq_eq_true g
      subst this
      cases hx; exact pageI_ok h (.inr (.inl rfl)) (hpg (.inr (.inl rfl))) hg e
    · cases hx
  · split at hx
    · rename_i g
      have := Nat.eq_of_beq_eq_true g
      subst this
      cases hx; exact pokeI_ok h (hpk rfl) hg e
    · cases hx
  · cases hx
    unfold awakeI at e
    dsimp only at e
    split at e
    · exact .inl ⟨_, _, e, awake_lands hg st⟩
    · exact .inr e
  · cases hx
end Go.Ev
