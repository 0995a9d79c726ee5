/- The tops: a verified evaluator of the program (DG). -/
import Derived.Test.YtkfeofhifmebkaaGreatDoorPI1
import Derived.Test.YtkfeofhifmebkaaGreatDoorDD
import Derived.Test.YtkfeofhifmebkaaGreatDoorEvD
set_option maxRecDepth 100000
namespace Go.Ev
open Go Go.Proofs
/-! TopDue: lemmas of calls -/
section
variable {P : Program} {E E' : Env} {base : Nat} {ν ν1 : Nat → Int}
theorem Sim.env' (hg : E'.glob = E.glob) {σ : Sg} {st : St} {w : World} (h : Sim P E ν base σ st w) : Sim P E' ν base σ st w :=
  ⟨h.fresh, h.blk, h.inj, fun g cs e => h.glob g cs (by rw [← hg]; exact e), h.size⟩
/-- a closed call, in other numbers -/
theorem CallLands.closed2 (hg : E'.glob = E.glob) (hf : GlobFree E) {f : FuncId} {args args' : List SV} {v v' : SV} {st' : St} (h : CallLands P E' ν1 base f args' ⟨.leaf, 0⟩ v' st') (ha : ∀ σ L, RepL ν σ args L → RepL ν1 (fun _ => none) args' L) (hv : ∀ σ V, Rep ν1 σ v' V → ∀ τ, Rep ν τ v V) (st : St) :
    CallLands P E ν base f args st v st := by
  refine ⟨h.1, fun σ w Args n R hs hA hR => h.2 (fun _ => none) w Args n R ?_ (ha σ _ hA) (fun σ' w' V go hV => ?_)⟩
  · exact ⟨fun _ _ => rfl, fun n b e => (by rw [getT_leaf] at e; cases e), fun n m b c bl z y e => (by rw [getT_leaf] at e; cases e), fun g cs e => by
      rw [hg] at e
      obtain ⟨h1, C, t, f, h2, h3⟩ := hs.glob g cs e
      exact ⟨h1, C, t, f, h2, freeL_ok (hf g cs e) h3⟩, hs.size⟩
  have hk : ∀ b, b < w.heap.size → w'.heap[b]? = w.heap[b]? := fun b hb => go.1.keep b hb (fun n c z e => by rw [getT_leaf] at e; cases e)
  have hk' : ∀ b o, w.heap[b]? = some o → w'.heap[b]? = some o := fun b o e => by rw [hk b (Array.getElem?_eq_some_iff.1 e).1]; exact e
  refine hR σ w' V ⟨⟨fun _ _ => rfl, Nat.le_refl _, go.1.size, fun b hb _ => hk b hb, fun n c b z hn e => .inl ⟨n, c, z, hn, e⟩, go.1.os, go.1.tape, go.1.output⟩, ?_⟩ (hv σ' V hV σ)
  refine ⟨hs.fresh, fun n b e => ?_, hs.inj, fun g cs e => ?_, Nat.le_trans hs.size go.1.size⟩
  · obtain ⟨bl, z, o, h1, h2, h3, h4⟩ := hs.blk n b e
    exact ⟨bl, z, o, h1, h2, hk' _ _ h3, h4⟩
  · obtain ⟨h1, C, t, f, h2, h3⟩ := hs.glob g cs e
    exact ⟨h1, C, t, f, hk' _ _ h2, h3⟩
/-- behind a call that looks at a part, and leaves it as it was: names are used up alone -/
theorem Goes.frame (hg : E'.glob = E.glob) {sL st s'L : St} (hsub : SubSt sL st) (hsame : ∀ n b, getT sL.heap n = some b → getT s'L.heap n = some b) {N1 : Nat} (hN : s'L.next ≤ N1) {σ σ' : Sg} {w w' : World} (hs : Sim P E ν base σ st w)
    (go : Goes P E' ν base σ sL w σ' s'L w') : Goes P E ν base σ st w σ' ⟨st.heap, N1⟩ w' := by
  have e : ∀ n, n < st.next → σ' n = σ n := fun n hn => go.1.same n (by rw [hsub.next]; exact hn)
  have nlt : ∀ n c, getT st.heap n = some c → n < st.next := fun n c h => by
    obtain ⟨bl, z, o, q1, _⟩ := hs.blk n c h
    exact hs.lt q1
  have le : σ.le σ' := fun n p h => by rw [e n (hs.lt h)]; exact h
  refine ⟨⟨e, by have := go.1.next; rw [hsub.next] at this; exact Nat.le_trans this hN, go.1.size, fun b hb hu => go.1.keep b hb fun n c z h1 h2 => hu n c z (hsub.heap n c h1) h2,
    fun n c b z h1 h2 => .inl ⟨n, c, z, h1, by rw [← e n (nlt n c h1)]; exact h2⟩, go.1.os, go.1.tape, go.1.output⟩, fun n hn => go.2.fresh n (Nat.le_trans hN hn), fun n b h => ?_, fun n m b c bl z y h1 h2 s1 s2 => ?_, fun g cs h => ?_, go.2.size⟩
  · cases hL : getT sL.heap n with
    | some b' =>
      have hb' := hsub.heap n b' hL
      rw [h] at hb'; cases hb'
      exact go.2.blk n b (hsame n b hL)
    | none =>
      obtain ⟨bl, z, o, q1, q2, q3, q4⟩ := hs.blk n b h
      refine ⟨bl, z, o, le _ _ q1, q2, ?_, q4.mono le⟩
      rw [go.1.keep bl (Array.getElem?_eq_some_iff.1 q3).1 fun m c y h1 h2 => ?_]
      · exact q3
      · have := hs.inj m n c b bl y z (hsub.heap m c h1) h h2 q1
        subst this
        rw [h1] at hL; cases hL
  · rw [e n (nlt n b h1)] at s1
    rw [e m (nlt m c h2)] at s2
    exact hs.inj n m b c bl z y h1 h2 s1 s2
  · exact go.2.glob g cs (by rw [hg]; exact h)
theorem CallLands.frame (hg : E'.glob = E.glob) {f : FuncId} {args : List SV} {v v' : SV} {sL st s'L : St} (h : CallLands P E' ν base f args sL v' s'L) (hsub : SubSt sL st) (hsame : ∀ n b, getT sL.heap n = some b → getT s'L.heap n = some b) {N1 : Nat} (hN : s'L.next ≤ N1) (hv : ∀ σ V, Rep ν σ v' V → Rep ν σ v V) :
    CallLands P E ν base f args st v ⟨st.heap, N1⟩ :=
  ⟨h.1, fun σ w Args n R hs hA hR => h.2 σ w Args n R ((hs.env' hg).sub hsub) hA fun σ' w' V go hV => hR σ' w' V (go.frame hg hsub hsame hN hs) (hv σ' V hV)⟩
end
theorem allP_at {n : Nat} {f : Nat → Bool} (h : allP n f = true) : ∀ {k : Nat}, k < n → f k = true := by
  induction n with
  | zero => intro k hk; omega
  | succ n ih =>
    intro k hk
    simp only [allP] at h
    split at h
    · rename_i g
      by_cases e : k = n
      · rw [e]; exact g
      · exact ih h (by omega)
    · cases h
theorem i2g {E : Env} (hg : E.glob = glob0f) {ν : Nat → Int} {base : Nat} {g : FuncId} {x : IX} (hx : intr2 g = some x) {args : List SV} {st : St} {k : SV → St → R} {fb : Unit → R} {out} (h : x.run args st k fb = .ok out) :
    (∃ v st', k v st' = .ok out ∧ CallLands Tryz.prog E ν base g args st v st') ∨ fb () = .ok out := by
  unfold intr2 at hx
  split at hx
  · cases hx; exact fieldsI_ok hg h
  · cases hx; exact itoaI_ok hg h
  · cases hx; exact joinI_ok h
  · cases hx
theorem globF {E : Env} (hg : E.glob = glob0f) : GlobFree E := fun g cs e => glob0_free g cs (by rw [hg] at e; exact e)
theorem eqS2_ok {x y : SV} (h : eqS2 x y = true) : x = y := by
  unfold eqS2 at h
  split at h
  · split at h
    · split at h
      · rename_i g1
        split at h
        · rename_i g2
          split at h
          · rename_i g3
            rw [Nat.eq_of_beq_eq_true g1, Nat.eq_of_beq_eq_true g2, beqSI_ok g3, beqON_ok h]
          · cases h
        · cases h
      · cases h
    · cases h
  · exact beqSV_ok _ _ h
theorem eqS2s_ok : ∀ {l m : List SV}, eqS2s l m = true → l = m := by
  intro l
  induction l with
  | nil => intro m h; cases m with
    | nil => rfl
    | cons => cases h
  | cons a l ih =>
    intro m h
    cases m with
    | nil => cases h
    | cons b m =>
      simp only [eqS2s] at h
      split at h
      · rename_i g; rw [eqS2_ok g, ih h]
      · cases h
theorem eqB2_ok {x y : AB} (h : eqB2 x y = true) : x = y := by
  unfold eqB2 at h
  split at h
  · split at h
    · split at h
      · rename_i g; rw [Nat.eq_of_beq_eq_true g, eqS2s_ok h]
      · cases h
    · cases h
  · split at h
    · split at h
      · rename_i g; rw [Nat.eq_of_beq_eq_true g, eqS2s_ok h]
      · cases h
    · cases h
  · cases h
theorem sameAt_ok {st : St} : ∀ {l : List (Nat × AB)}, sameAt l st = true → ∀ n b, (n, b) ∈ l → getT st.heap n = some b := by
  intro l
  induction l with
  | nil => intro _ n b h; cases h
  | cons p l ih =>
    intro h n b hm
    obtain ⟨m, c⟩ := p
    simp only [sameAt] at h
    split at h
    · rename_i d hd
      split at h
      · rename_i g
        rcases List.mem_cons.1 hm with e | hm
        · cases e; rw [hd, eqB2_ok g]
        · exact ih h n b hm
      · cases h
    · cases h
theorem progV_ok {v : SV} (h : progV v = true) {ν : Nat → Int} {σ : Sg} {V : Value} (hV : Rep ν σ v V) : Rep ν σ (.tup [.agg [.any, .any], .any]) V := by
  unfold progV at h
  split at h
  · split at h
    · rename_i g1
      split at h
      · rename_i g2
        simp only [Rep, RepL] at hV ⊢
        obtain ⟨C, rfl, V1, U1, e1, ⟨D, rfl, V3, U3, e3, r3, V4, U4, rfl, r4, rfl⟩, V2, U2, rfl, r2, rfl⟩ := hV
        exact ⟨C, rfl, _, _, e1, ⟨D, rfl, _, _, e3, one1_ok g1 r3, _, _, rfl, one1_ok g2 r4, rfl⟩, _, _, rfl, one1_ok h r2, rfl⟩
      · cases h
    · cases h
  · cases h
def tup3 (v : SV) : Bool := match v with
  | .tup [a, b, c] => match one1 a with
    | true => match one1 b with
      | true => one1 c
      | false => false
    | false => false
  | _ => false
def endB (b : Bool) (st : St) : R := match b with
  | true => .ok (.bool true, st)
  | false => .err "shape"
theorem tup3_ok {v : SV} (h : tup3 v = true) {ν ν' : Nat → Int} {σ τ : Sg} {V : Value} (hV : Rep ν σ v V) : Rep ν' τ (.tup [.any, .any, .any]) V := by
  unfold tup3 at h
  split at h
  · rename_i a b c
    split at h
    · rename_i g1
      split at h
      · rename_i g2
        simp only [Rep, RepL] at hV ⊢
        obtain ⟨C, rfl, V1, U1, e1, r1, V2, U2, rfl, r2, V3, U3, rfl, r3, rfl⟩ := hV
        exact ⟨C, rfl, _, _, e1, one1_ok g1 r1, _, _, rfl, one1_ok g2 r2, _, _, rfl, one1_ok h r3, rfl⟩
      · cases h
    · cases h
  · cases h
theorem endB_ok {b : Bool} {st : St} {out} (h : endB b st = .ok out) : b = true := by
  unfold endB at h
  split at h
  · rfl
  · cases h
theorem setTK_R {t : T AB} {n : Nat} {v : Option AB} {k : T AB → R} {out} (h : setTK t n v k = .ok out) : ∃ t', k t' = .ok out ∧ ∀ m, getT t' m = if m = n then v else getT t m := by
  obtain ⟨t', e, s⟩ := setTK_spec t n v k
  exact ⟨t', by rw [← e]; exact h, s⟩
end Go.Ev
namespace Go.Ev
open Go Go.Proofs
/-! TopDue: the numbers -/
structure Dn where
  tk : Nat
  fr : Int
  cr : Int
  fl : Nat
  cp : Nat
  n0 : Nat
  W0 : Nat
  W1 : Nat
  dl : Nat
  A : Nat
  D : Nat
  S : Nat
  step : Nat
  N : Nat
  i : Nat
  len : Nat
  dt : Int
  on : Nat
  lv : Nat
  L : Nat
  log : Int
  tops : Nat → Int
def pw (n : Nat) : Int := ((2 ^ n : Nat) : Int)
def Dn.X (q : Dn) : Nat := min (q.N + q.step) 18446744073709551615
def Dn.sm (q : Dn) : Int := if q.tk ≤ 1073741824 then (q.tk : Int) else -1
def Dn.lo (q : Dn) (i : Nat) : Int :=
  if i = 2 then (q.tk : Int)
  else if i = 3 then q.fr
  else if i = 4 then q.cr
  else if i = 5 then IntKind.wrap .u64 q.fr
  else if i = 6 then IntKind.wrap .u64 q.cr
  else if i = 7 then (q.fl : Int)
  else if i = 8 then (q.cp : Int)
  else if i = 9 then (q.n0 : Int)
  else if i = 10 then (q.W0 : Int)
  else if i = 11 then (q.W1 : Int)
  else if i = 12 then (q.dl : Int)
  else if i = 13 then (q.A : Int)
  else if i = 14 then (q.D : Int)
  else if i = 15 then (q.S : Int)
  else if i = 18 then (q.step : Int)
  else if i = 19 then (q.X : Int)
  else if i = 20 then (q.N : Int)
  else if i = 30 then (q.i : Int)
  else if i = 31 then ((q.i + 1 : Nat) : Int)
  else if i = 35 then (q.len : Int)
  else if i = 38 then q.dt
  else if i = 39 then IntKind.wrap .u64 q.dt
  else if i = 40 then ((q.step - 1 : Nat) : Int)
  else if i = 43 then (q.on : Int)
  else if i = 44 then (q.lv : Int)
  else if i = 48 then ((q.fl % 2 : Nat) : Int)
  else if i = 49 then (if q.fl % 2 = 1 then 1 else 0)
  else if i = 51 then q.sm
  else if i = 54 then (if q.N + q.step ≤ 18446744073709551615 then 1 else 0)
  else 0
def Dn.V (q : Dn) (i : Nat) : Int :=
  if i < 60 then q.lo i
  else if i = 60 then ((64 * q.lv + q.S : Nat) : Int)
  else if i < 69 then ((512 + (i - 61) : Nat) : Int)
  else if i < 71 then 0
  else if i < 79 then (if i - 71 = q.lv then pw q.S else 0)
  else if i < 80 then 0
  else if i < 84 then q.tops (i - 80)
  else if 5000 ≤ i ∧ i < 5100 then ((q.L + (i - 5000) : Nat) : Int)
  else if i = 1005000 then q.log
  else 0
theorem Dn.v2 (q : Dn) : q.V 2 = (q.tk : Int) := rfl
theorem Dn.v3 (q : Dn) : q.V 3 = q.fr := rfl
theorem Dn.v4 (q : Dn) : q.V 4 = q.cr := rfl
theorem Dn.v5 (q : Dn) : q.V 5 = IntKind.wrap .u64 q.fr := rfl
theorem Dn.v6 (q : Dn) : q.V 6 = IntKind.wrap .u64 q.cr := rfl
theorem Dn.v7 (q : Dn) : q.V 7 = (q.fl : Int) := rfl
theorem Dn.v8 (q : Dn) : q.V 8 = (q.cp : Int) := rfl
theorem Dn.v9 (q : Dn) : q.V 9 = (q.n0 : Int) := rfl
theorem Dn.v10 (q : Dn) : q.V 10 = (q.W0 : Int) := rfl
theorem Dn.v11 (q : Dn) : q.V 11 = (q.W1 : Int) := rfl
theorem Dn.v12 (q : Dn) : q.V 12 = (q.dl : Int) := rfl
theorem Dn.v13 (q : Dn) : q.V 13 = (q.A : Int) := rfl
theorem Dn.v14 (q : Dn) : q.V 14 = (q.D : Int) := rfl
theorem Dn.v15 (q : Dn) : q.V 15 = (q.S : Int) := rfl
theorem Dn.v18 (q : Dn) : q.V 18 = (q.step : Int) := rfl
theorem Dn.v19 (q : Dn) : q.V 19 = (q.X : Int) := rfl
theorem Dn.v20 (q : Dn) : q.V 20 = (q.N : Int) := rfl
theorem Dn.v30 (q : Dn) : q.V 30 = (q.i : Int) := rfl
theorem Dn.v31 (q : Dn) : q.V 31 = ((q.i + 1 : Nat) : Int) := rfl
theorem Dn.v35 (q : Dn) : q.V 35 = (q.len : Int) := rfl
theorem Dn.v38 (q : Dn) : q.V 38 = q.dt := rfl
theorem Dn.v39 (q : Dn) : q.V 39 = IntKind.wrap .u64 q.dt := rfl
theorem Dn.v40 (q : Dn) : q.V 40 = ((q.step - 1 : Nat) : Int) := rfl
theorem Dn.v43 (q : Dn) : q.V 43 = (q.on : Int) := rfl
theorem Dn.v44 (q : Dn) : q.V 44 = (q.lv : Int) := rfl
theorem Dn.v48 (q : Dn) : q.V 48 = ((q.fl % 2 : Nat) : Int) := rfl
theorem Dn.v49 (q : Dn) : q.V 49 = (if q.fl % 2 = 1 then 1 else 0) := rfl
theorem Dn.v51 (q : Dn) : q.V 51 = q.sm := rfl
theorem Dn.v54 (q : Dn) : q.V 54 = (if q.N + q.step ≤ 18446744073709551615 then 1 else 0) := rfl
theorem Dn.v60 (q : Dn) : q.V 60 = ((64 * q.lv + q.S : Nat) : Int) := rfl
theorem Dn.vplace (q : Dn) {j : Nat} (h : j < 8) : q.V (61 + j) = ((512 + j : Nat) : Int) := by
  unfold Dn.V
  rw [if_neg (by omega), if_neg (by omega), if_pos (by omega), Nat.add_sub_cancel_left]
theorem Dn.vbusy (q : Dn) {j : Nat} (h : j < 8) : q.V (71 + j) = if j = q.lv then pw q.S else 0 := by
  unfold Dn.V
  rw [if_neg (by omega), if_neg (by omega), if_neg (by omega), if_neg (by omega), if_pos (by omega), Nat.add_sub_cancel_left]
theorem Dn.vtop (q : Dn) {j : Nat} (h : j < 4) : q.V (80 + j) = q.tops j := by
  unfold Dn.V
  rw [if_neg (by omega), if_neg (by omega), if_neg (by omega), if_neg (by omega), if_neg (by omega), if_neg (by omega), if_pos (by omega), Nat.add_sub_cancel_left]
theorem Dn.vL (q : Dn) {j : Nat} (h : j < 100) : q.V (5000 + j) = ((q.L + j : Nat) : Int) := by
  unfold Dn.V
  rw [if_neg (by omega), if_neg (by omega), if_neg (by omega), if_neg (by omega), if_neg (by omega), if_neg (by omega), if_neg (by omega), if_pos (by omega), Nat.add_sub_cancel_left]
theorem Dn.vlog (q : Dn) : q.V 1005000 = q.log := by simp [Dn.V]
/-- what holds of the numbers at all times -/
structure Dn.Ok (q : Dn) : Prop where
  fr : IntKind.wrap .i64 q.fr = q.fr ∧ IntKind.wrap .i64 q.cr = q.cr ∧ IntKind.wrap .i64 q.dt = q.dt
  fl : (q.fl : Int) = (IntKind.wrap .u64 q.fr).tmod 4
  cp : (q.cp : Int) = (IntKind.wrap .u64 q.cr).tmod 2
  step : (q.step : Int) = 1 + (IntKind.wrap .u64 q.dt).tmod 255
  u64 : q.tk < 18446744073709551616 ∧ q.n0 < 18446744073709551616 ∧ q.N < 18446744073709551616
  i : q.i ≤ 40
  S : q.S < 64
  lv : q.lv < 8
  L : 1 ≤ q.L ∧ q.L ≤ 3000
theorem wrap_u {n : Int} (h1 : 0 ≤ n) (h2 : n ≤ 18446744073709551615) : IntKind.u64.wrap n = n := wrap_in (k := .u64) h1 h2
theorem wrap_i {n : Int} (h1 : -9223372036854775808 ≤ n) (h2 : n ≤ 9223372036854775807) : IntKind.i64.wrap n = n := wrap_in (k := .i64) h1 h2
theorem wrapU (x : Int) : 0 ≤ IntKind.wrap .u64 x ∧ IntKind.wrap .u64 x < 18446744073709551616 := by
  simp only [IntKind.wrap, IntKind.bits, IntKind.signed, Bool.false_and, Bool.false_eq_true, if_false]
  omega
theorem Dn.Ok.small {q : Dn} (h : q.Ok) : q.fl < 4 ∧ q.cp < 2 ∧ 1 ≤ q.step ∧ q.step ≤ 255 := by
  have h1 := h.fl
  have h2 := h.cp
  have h3 := h.step
  rw [Int.tmod_eq_emod_of_nonneg (wrapU _).1] at h1 h2 h3
  omega
theorem logN_ok {q : Dn} (h : q.Ok) : LogN q.V := by
  have h1 := h.L
  refine ⟨fun j hj => ?_, ?_, ?_⟩
  · have := q.vL (j := 0) (by decide)
    rw [Nat.add_zero] at this
    rw [q.vL hj, this]; omega
  · have := q.vL (j := 0) (by decide)
    rw [Nat.add_zero] at this
    rw [this]; omega
  · have := q.vL (j := 0) (by decide)
    rw [Nat.add_zero] at this
    rw [this]; omega
theorem rngsD_ok {q : Dn} (h : q.Ok) : RgOk q.V rngsD := by
  obtain ⟨a, b, c, d⟩ := h.small
  have hS := h.S
  intro g hg
  simp only [rngsD, List.mem_cons, List.not_mem_nil, or_false] at hg
  rcases hg with rfl | rfl | rfl | rfl | rfl | rfl
  · dsimp only; rw [Dn.v40]; omega
  · dsimp only; rw [Dn.v18]; omega
  · dsimp only; rw [Dn.v7]; omega
  · dsimp only; rw [Dn.v8]; omega
  · dsimp only; rw [Dn.v15]; omega
  · dsimp only; rw [Dn.v51]; unfold Dn.sm; split <;> omega
theorem convsD_ok (q : Dn) : ∀ c ∈ convsD, CvOk q.V c := by
  intro c hc
  simp only [convsD, List.mem_cons, List.not_mem_nil, or_false] at hc
  rcases hc with rfl | rfl | rfl <;> rfl
theorem appR_eq (l m : List Rl) : appR l m = l ++ m := by
  induction l with
  | nil => rfl
  | cons a l ih => simp [appR, ih]
end Go.Ev
namespace Go.Ev
open Go Go.Proofs
/-! TopDue: the tables -/
theorem tmod_nat (a b : Nat) : ((a : Int).tmod (b : Int)) = ((a % b : Nat) : Int) := (Int.ofNat_tmod a b).symm
theorem symBoolA {P : Program} {ν : Nat → Int} {op : BinOp} {k : IntKind} {a b : Int} {i : Nat} {t : Bool} (h : SymOk P ν op k a b (.bool t)) (e : decide (ν i ≠ 0) = t) : SymOk P ν op k a b (.abool i) := by
  obtain ⟨V, h1, h2⟩ := h
  refine ⟨V, h1, fun σ => ?_⟩
  have := h2 σ
  simp only [Rep] at this ⊢
  rw [this, e]
theorem symAnd {P : Program} {ν : Nat → Int} {a b : Int} {s : SInt} (e : s.val ν = IntKind.u64.wrap ((BitVec.ofInt 64 a &&& BitVec.ofInt 64 b).toNat : Int)) : SymOk P ν .and .u64 a b (.int .u64 s) := by
  refine .int (n := IntKind.u64.wrap ((BitVec.ofInt 64 a &&& BitVec.ofInt 64 b).toNat : Int)) ?_ e
  simp only [intF, bitsB]
  rw [forceI_eq]
  rfl
theorem and1 : ∀ f : Nat, f < 4 → IntKind.u64.wrap ((BitVec.ofInt 64 (f : Int) &&& BitVec.ofInt 64 1).toNat : Int) = ((f % 2 : Nat) : Int) := by decide
theorem and2 : ∀ f : Nat, f < 4 → IntKind.u64.wrap ((BitVec.ofInt 64 (f : Int) &&& BitVec.ofInt 64 2).toNat : Int) = if f < 2 then 0 else 2 := by decide
theorem rulesD0_ok {q : Dn} (h : q.Ok) : ∀ r ∈ rulesD0, RlOk Tryz.prog q.V r := by
  obtain ⟨a, b, c, d⟩ := h.small
  intro r hr
  simp only [rulesD0, rl, List.mem_cons, List.not_mem_nil, or_false] at hr
  rcases hr with rfl | rfl | rfl | rfl | rfl | rfl | rfl | rfl | rfl | rfl <;> simp only [RlOk, rlV, SInt.val]
  · exact symRem (by decide) (by simp only [SInt.val, Dn.v7, Dn.v5]; exact h.fl)
  · exact symRem (by decide) (by simp only [SInt.val, Dn.v8, Dn.v6]; exact h.cp)
  · exact symRem (by decide) (by simp only [SInt.val, Dn.v48, Dn.v7]; exact (tmod_nat _ 2).symm)
  · refine symBoolA (symEql rfl) ?_
    rw [Dn.v49, Dn.v48]
    by_cases g : q.fl % 2 = 1
    · rw [if_pos g, decide_eq_true (by omega), decide_eq_true (by omega)]
    · rw [if_neg g, decide_eq_false (by omega), decide_eq_false (by omega)]
  · exact symAnd (by simp only [SInt.val, Dn.v48, Dn.v7]; exact (and1 q.fl a).symm)
  · refine symBoolA (symNeq rfl) ?_
    rw [Dn.v49, Dn.v48]
    by_cases g : q.fl % 2 = 1
    · rw [if_pos g, decide_eq_true (by omega), decide_eq_false (by omega)]; rfl
    · rw [if_neg g, decide_eq_false (by omega), decide_eq_true (by omega)]; rfl
  · exact symLeq (by rw [decide_eq_false (by omega)]; rfl)
  · exact symRem (by decide) (by simp only [SInt.val, Dn.v40, Dn.v39]; have := h.step; omega)
  · exact symAdd (by simp only [SInt.val, Dn.v40, Dn.v18]; rw [wrap_i (by omega) (by omega)]; omega)
  · exact symAdd (by simp only [SInt.val, Dn.v30, Dn.v31]; have := h.i; rw [wrap_i (by omega) (by omega)]; omega)
theorem rulesPc_ok {q : Dn} (h : q.Ok) {pc : Nat} (hp : (pc = 0 ∧ q.fl < 2) ∨ (pc = 9) ∨ (pc ≠ 0 ∧ 2 ≤ q.fl)) : ∀ r ∈ rulesPc pc, RlOk Tryz.prog q.V r := by
  obtain ⟨a, b, c, d⟩ := h.small
  intro r hr
  unfold rulesPc at hr
  split at hr
  · have hf : q.fl < 2 := by
      rcases hp with g | g | g
      · exact g.2
      · cases g
      · exact absurd rfl g.1
    simp only [rl, List.mem_cons, List.not_mem_nil, or_false] at hr
    rcases hr with rfl | rfl <;> simp only [RlOk, rlV, SInt.val]
    · exact symGeq (by rw [Dn.v7, decide_eq_true (by omega)]; rfl)
    · exact symAnd (by simp only [SInt.val, Dn.v7]; rw [and2 q.fl a, if_pos hf])
  · cases hr
  · rename_i h0 h9
    have hf : 2 ≤ q.fl := by
      rcases hp with g | g | g
      · exact absurd g.1 h0
      · exact absurd g h9
      · exact g.2
    simp only [rl, List.mem_cons, List.not_mem_nil, or_false] at hr
    rcases hr with rfl | rfl <;> simp only [RlOk, rlV, SInt.val]
    · exact symGeq (by rw [Dn.v7, decide_eq_false (by omega)]; rfl)
    · exact symAnd (by simp only [SInt.val, Dn.v7]; rw [and2 q.fl a, if_neg (by omega)])
theorem rulesOk_ok {q : Dn} {ok : Bool} (h : ok = true → q.n0 ≠ 18446744073709551615) : ∀ r ∈ rulesOk ok, RlOk Tryz.prog q.V r := by
  intro r hr
  unfold rulesOk at hr
  split at hr
  · have hn := h rfl
    have := List.mem_singleton.1 hr
    subst this
    simp only [rl, RlOk, rlV, SInt.val]
    exact symEql (by rw [Dn.v9, decide_eq_false (by omega)])
  · cases hr
theorem rulesDue_ok {q : Dn} {due : Bool} (h : due = decide (q.D ≤ q.X)) (hA : q.A ≤ q.D) : ∀ r ∈ rulesDue due, RlOk Tryz.prog q.V r := by
  intro r hr
  unfold rulesDue at hr
  split at hr
  · have hd : q.D ≤ q.X := of_decide_eq_true h.symm
    simp only [rl, List.mem_cons, List.not_mem_nil, or_false] at hr
    rcases hr with rfl | rfl <;> simp only [RlOk, rlV, SInt.val]
    · exact symGeq (by rw [Dn.v19, Dn.v14, decide_eq_false (by omega)]; rfl)
    · exact symLss (by rw [Dn.v19, Dn.v13, decide_eq_false (by omega)])
  · have hd : ¬ q.D ≤ q.X := of_decide_eq_false h.symm
    have := List.mem_singleton.1 hr
    subst this
    simp only [rl, RlOk, rlV, SInt.val]
    exact symGeq (by rw [Dn.v19, Dn.v14, decide_eq_true (by omega)]; rfl)
end Go.Ev
set_option maxRecDepth 100000
namespace Go.Ev
open Go Go.Proofs
noncomputable section
/-! TopDue: closed runs for the intrinsics -/
def endV (w v : SV) (st : St) : R := match beqSV v w with
  | true => .ok (.bool true, st)
  | false => .err "value"
def ckOk (d f : Nat) : Bool := isOkB (sf2.call 63 [.agg [i64L 11, i64L (.ofNat d), i64L 0, i64L 0, i64L (.ofNat f)]] ⟨.leaf, 0⟩ (endV (i64L 0)))
def hpOk (n : Nat) : Bool := isOkB (sf2.call 294 [i64L (.ofNat n)] ⟨.leaf, 0⟩ fun v st => endB (tup3 v) st)
def valA (x : SInt) : SV := .agg [.bool false, i64L 0, i64L 0, i64L 0, .int .u64 x]
def envS (lo hi : Int) : Env := ⟨tyT, fnT, glob0f, fun _ => Option.none, rSym [] [⟨2, lo, hi⟩], rConv [] [⟨2, lo, hi⟩], simpleF, fun _ _ => Option.none⟩
def smOk (lo hi : Int) (v : SV) : Bool := isOkB ((selfN (envS lo hi) 100000).call 364 [valA (.atom 2)] ⟨.leaf, 0⟩ (endV v))
def smL (n : Nat) : Bool := isOkB (sf2.call 364 [valA (.lit (.ofNat n))] ⟨.leaf, 0⟩ (endV (i64L (.ofNat n))))
def rulesAdd (ov : Bool) : List Rl := [rl .sub .u64 (.lit 18446744073709551615) (.atom 20) (.n (.atom 22)), rl .gtr .u64 (.atom 18) (.atom 22) (.b ov), rl .add .u64 (.atom 20) (.atom 18) (.n (.atom 19))]
def envAdd (ov : Bool) : Env := ⟨tyT, fnT, glob0f, fun _ => Option.none, rSym (rulesAdd ov) [], fun _ _ _ => Option.none, simpleF, fun _ _ => Option.none⟩
def adOk (ov : Bool) (v : SV) : Bool := isOkB ((selfN (envAdd ov) 100000).call 190 [u64A 20, u64A 18] ⟨.leaf, 0⟩ (endV v))
end
theorem ck3 : allP 4 (fun f => ckOk 3 f) = true := by kernel_rfl
theorem ck4 : allP 2 (fun f => ckOk 4 f) = true := by kernel_rfl
theorem hp_all : allP 4 hpOk = true := by kernel_rfl
theorem sm_lo : smOk 0 1073741824 (i64A 2) = true := by kernel_rfl
theorem sm_hi : smOk 1073741825 18446744073709551615 (i64L (-1)) = true := by kernel_rfl
theorem sm_lit : allP 2 smL = true := by kernel_rfl
theorem ad_in : adOk false (.tup [u64A 19, .bool true]) = true := by kernel_rfl
theorem ad_ov : adOk true (.tup [.int .u64 (.lit 18446744073709551615), .bool false]) = true := by kernel_rfl
end Go.Ev
set_option maxRecDepth 100000
namespace Go.Ev
open Go Go.Proofs
/-! TopDue: the intrinsics' soundness -/
theorem endV_ok {w v : SV} {st : St} {out} (h : endV w v st = .ok out) : v = w := by
  unfold endV at h
  split at h
  · rename_i g; exact beqSV_ok _ _ g
  · cases h
/-- a closed run by sf2, at literals -/
theorem closed_sf2 {E : Env} (hg : E.glob = glob0f) {ν : Nat → Int} {base : Nat} {f : FuncId} {args args' : List SV} {w : SV} (h : isOkB (sf2.call f args' ⟨.leaf, 0⟩ (endV w)) = true) (ha : ∀ σ L, RepL ν σ args L → RepL ν (fun _ => none) args' L) (hw : lowV 0 w = true) (st : St) :
    CallLands Tryz.prog E ν base f args st w st := by
  obtain ⟨out, h3⟩ := isOkB_ok h
  obtain ⟨v, st', h4, h5⟩ := (sf2_ok (ν := ν) (base := base)).call h3
  have h4 := endV_ok h4
  subst h4
  exact h5.closed2 (E' := E2) hg.symm (globF hg) ha (fun σ V hV τ => lowV_ok (N := 0) (fun n hn => by omega) _ hw hV) st
theorem checkI_ok {E : Env} (hg : E.glob = glob0f) {q : Dn} (hq : q.Ok) {base : Nat} {args : List SV} {st : St} {k : SV → St → R} {fb : Unit → R} {out} (h : checkI.run args st k fb = .ok out) :
    (∃ v st', k v st' = .ok out ∧ CallLands Tryz.prog E q.V base 63 args st v st') ∨ fb () = .ok out := by
  obtain ⟨a, b, _, _⟩ := hq.small
  unfold checkI at h
  dsimp only at h
  split at h
  case h_2 => exact .inr h
  rename_i op d s o i
  split at h
  case h_2 => exact .inr h
  rename_i hc
  refine .inl ⟨_, st, h, ?_⟩
  split at hc
  case h_2 => cases hc
  rename_i g1
  split at hc
  case h_2 => cases hc
  rename_i g2
  split at hc
  case h_2 => cases hc
  rename_i g3
  have g1 := eqI_ok g1; subst g1
  have g2 := eqI_ok g2; subst g2
  have g3 := eqI_ok g3; subst g3
  split at hc
  · rename_i g4
    have g4 := eqI_ok g4; subst g4
    have hc := Nat.eq_of_beq_eq_true hc; subst hc
    refine closed_sf2 hg (allP_at ck3 a) (fun σ L hL => ?_) rfl st
    simp only [RepL, Rep, SInt.val, i64L, Dn.v7] at hL ⊢
    exact hL
  · split at hc
    · rename_i g4
      have g4 := eqI_ok g4; subst g4
      have hc := Nat.eq_of_beq_eq_true hc; subst hc
      refine closed_sf2 hg (allP_at ck4 b) (fun σ L hL => ?_) rfl st
      simp only [RepL, Rep, SInt.val, i64L, Dn.v8] at hL ⊢
      exact hL
    · cases hc
theorem helper_at {E : Env} (hg : E.glob = glob0f) {ν : Nat → Int} {base : Nat} {n : Nat} (hn : n < 4) {i : Nat} (hi : ν i = (n : Int)) (st : St) : CallLands Tryz.prog E ν base 294 [.int .i64 (.atom i)] st (.tup [.any, .any, .any]) st := by
  obtain ⟨out', h3⟩ := isOkB_ok (allP_at hp_all hn)
  obtain ⟨v, st', h4, h5⟩ := (sf2_ok (ν := ν) (base := base)).call h3
  have h4 := endB_ok h4
  refine h5.closed2 (E' := E2) hg.symm (globF hg) (fun σ L hL => ?_) (fun σ V hV τ => tup3_ok h4 hV) st
  simp only [RepL, Rep, SInt.val, i64L] at hL ⊢
  obtain ⟨V, Us, rfl, rfl, rfl⟩ := hL
  exact ⟨_, _, rfl, by rw [hi]; rfl, rfl⟩
theorem helperI_ok {E : Env} (hg : E.glob = glob0f) {q : Dn} (hq : q.Ok) {base : Nat} {args : List SV} {st : St} {k : SV → St → R} {fb : Unit → R} {out} (h : helperI.run args st k fb = .ok out) :
    (∃ v st', k v st' = .ok out ∧ CallLands Tryz.prog E q.V base 294 args st v st') ∨ fb () = .ok out := by
  obtain ⟨a, b, _, _⟩ := hq.small
  unfold helperI at h
  dsimp only at h
  split at h
  case h_2 => exact .inr h
  rename_i i
  split at h
  · rename_i g
    have g := Nat.eq_of_beq_eq_true g; subst g
    exact .inl ⟨_, st, h, helper_at hg a (Dn.v7 q) st⟩
  · split at h
    · rename_i g
      have g := Nat.eq_of_beq_eq_true g; subst g
      exact .inl ⟨_, st, h, helper_at hg (by omega) (Dn.v8 q) st⟩
    · exact .inr h
theorem smS_ok {ν : Nat → Int} (hl : LogN ν) {lo hi : Int} (h1 : lo ≤ ν 2) (h2 : ν 2 ≤ hi) {base : Nat} : SelfOk Tryz.prog (envS lo hi) ν base (selfN (envS lo hi) 100000) := by
  have hr : RgOk ν [⟨2, lo, hi⟩] := fun g hg => by
    have := List.mem_singleton.1 hg
    subst this
    exact ⟨h1, h2⟩
  exact selfN_ok (eok (fun op k x j y v e => rSym_ok (fun r hr => by cases hr) hr hl e) (fun k j x v e => rConv_ok (fun c hc => by cases hc) hr e) (fun a j b e => by cases e)) (fun g x hx => by cases hx) _
theorem smallI_ok {E : Env} (hg : E.glob = glob0f) {q : Dn} (hq : q.Ok) {pc : Nat} (hp : (pc = 1 → q.cp = 0) ∧ (pc = 2 → q.cp = 1)) {base : Nat} {args : List SV} {st : St} {k : SV → St → R} {fb : Unit → R} {out} (h : (smallI pc).run args st k fb = .ok out) :
    (∃ v st', k v st' = .ok out ∧ CallLands Tryz.prog E q.V base 364 args st v st') ∨ fb () = .ok out := by
  unfold smallI at h
  dsimp only at h
  split at h
  case h_2 => exact .inr h
  rename_i b p p2 r i
  split at h
  case h_2 => exact .inr h
  rename_i hc
  split at hc
  · cases hc
  split at hc
  case h_2 => cases hc
  rename_i g1
  split at hc
  case h_2 => cases hc
  rename_i g2
  have g1 := eqI_ok g1; subst g1
  have g2 := eqI_ok g2; subst g2
  have g3 := eqI_ok hc; subst g3
  have lit : ∀ n, n < 2 → q.cp = n → i = 8 → CallLands Tryz.prog E q.V base 364 [.agg [.bool false, .int .i64 (.lit 0), .int .i64 (.lit 0), .int .i64 (.lit 0), .int .u64 (.atom i)]] st (i64L (.ofNat n)) st := by
    intro n hn hcp hi
    subst hi
    refine closed_sf2 hg (allP_at sm_lit hn) (fun σ L hL => ?_) rfl st
    simp only [RepL, Rep, SInt.val, i64L, valA, Dn.v8] at hL ⊢
    rw [hcp] at hL
    exact hL
  split at h
  · rename_i g4
    have g4 := Nat.eq_of_beq_eq_true g4; subst g4
    refine .inl ⟨_, st, h, ?_⟩
    have hu := hq.u64.1
    by_cases ht : q.tk ≤ 1073741824
    · obtain ⟨out', h3⟩ := isOkB_ok sm_lo
      obtain ⟨v, st', h4, h5⟩ := (smS_ok (logN_ok hq) (lo := 0) (hi := 1073741824) (by rw [Dn.v2]; omega) (by rw [Dn.v2]; omega) (base := base)).call h3
      have h4 := endV_ok h4
      subst h4
      refine h5.closed2 (E' := envS 0 1073741824) hg.symm (globF hg) (fun σ L hL => ?_) (fun σ V hV τ => ?_) st
      · simp only [RepL, Rep, SInt.val, i64L, valA] at hL ⊢
        exact hL
      · simp only [Rep, SInt.val, i64A, Dn.v2, Dn.v51] at hV ⊢
        unfold Dn.sm
        rw [if_pos ht]; exact hV
    · obtain ⟨out', h3⟩ := isOkB_ok sm_hi
      obtain ⟨v, st', h4, h5⟩ := (smS_ok (logN_ok hq) (lo := 1073741825) (hi := 18446744073709551615) (by rw [Dn.v2]; omega) (by rw [Dn.v2]; omega) (base := base)).call h3
      have h4 := endV_ok h4
      subst h4
      refine h5.closed2 (E' := envS 1073741825 18446744073709551615) hg.symm (globF hg) (fun σ L hL => ?_) (fun σ V hV τ => ?_) st
      · simp only [RepL, Rep, SInt.val, i64L, valA] at hL ⊢
        exact hL
      · simp only [Rep, SInt.val, i64A, i64L, Dn.v51] at hV ⊢
        unfold Dn.sm
        rw [if_neg ht]; exact hV
  · split at h
    case h_2 => exact .inr h
    rename_i g4
    have g4 := Nat.eq_of_beq_eq_true g4
    split at h
    · exact .inl ⟨_, st, h, lit 0 (by omega) (hp.1 rfl) g4⟩
    · exact .inl ⟨_, st, h, lit 1 (by omega) (hp.2 rfl) g4⟩
    · exact .inr h
/-- numbers of a closed run: a log's lengths, and others -/
def nuL (f : Nat → Int) (i : Nat) : Int := if 5000 ≤ i then (i : Int) - 4999 else f i
theorem nuL_log (f : Nat → Int) : LogN (nuL f) := by
  refine ⟨fun j hj => ?_, ?_, ?_⟩
  · unfold nuL; rw [if_pos (by omega), if_pos (by omega)]; omega
  · unfold nuL; rw [if_pos (by omega)]; omega
  · unfold nuL; rw [if_pos (by omega)]; omega
def nuAdd (q : Dn) (i : Nat) : Int := if i = 20 then (q.N : Int) else if i = 18 then (q.step : Int) else if i = 22 then 18446744073709551615 - (q.N : Int) else if i = 19 then IntKind.u64.wrap ((q.N : Int) + q.step) else 0
theorem adS_ok {q : Dn} (hq : q.Ok) {ov : Bool} (ho : ov = decide (18446744073709551615 < q.N + q.step)) {base : Nat} : SelfOk Tryz.prog (envAdd ov) (nuL (nuAdd q)) base (selfN (envAdd ov) 100000) := by
  have hN := hq.u64.2.2
  obtain ⟨_, _, hs1, hs2⟩ := hq.small
  refine selfN_ok (eok (fun op k x j y v e => rSym_ok (fun r hr => ?_) (fun g hg => by cases hg) (nuL_log _) e) (fun k j x v e => by cases e) (fun a j b e => by cases e)) (fun g x hx => by cases hx) _
  have e20 : nuL (nuAdd q) 20 = q.N := rfl
  have e18 : nuL (nuAdd q) 18 = q.step := rfl
  have e19 : nuL (nuAdd q) 19 = IntKind.u64.wrap ((q.N : Int) + q.step) := rfl
  have e22 : nuL (nuAdd q) 22 = 18446744073709551615 - (q.N : Int) := rfl
  simp only [rulesAdd, rl, List.mem_cons, List.not_mem_nil, or_false] at hr
  rcases hr with rfl | rfl | rfl <;> simp only [RlOk, rlV, SInt.val]
  · exact symSub (by simp only [SInt.val, e20, e22]; rw [wrap_u (by omega) (by omega)])
  · exact symGtr (by rw [ho, e22, e18]; exact decide_eq_decide.2 (by omega))
  · exact symAdd (by simp only [SInt.val, e20, e18, e19])
theorem addI_ok {E : Env} (hg : E.glob = glob0f) {q : Dn} (hq : q.Ok) {base : Nat} {args : List SV} {st : St} {k : SV → St → R} {fb : Unit → R} {out} (h : addI.run args st k fb = .ok out) :
    (∃ v st', k v st' = .ok out ∧ CallLands Tryz.prog E q.V base 190 args st v st') ∨ fb () = .ok out := by
  unfold addI at h
  dsimp only at h
  split at h
  case h_2 => exact .inr h
  rename_i i j
  split at h
  case h_2 => exact .inr h
  rename_i g1
  split at h
  case h_2 => exact .inr h
  rename_i g2
  have g1 := Nat.eq_of_beq_eq_true g1; subst g1
  have g2 := Nat.eq_of_beq_eq_true g2; subst g2
  refine .inl ⟨_, st, h, ?_⟩
  have hN := hq.u64.2.2
  have e20 : nuL (nuAdd q) 20 = q.N := rfl
  have e18 : nuL (nuAdd q) 18 = q.step := rfl
  have e19 : nuL (nuAdd q) 19 = IntKind.u64.wrap ((q.N : Int) + q.step) := rfl
  by_cases ho : 18446744073709551615 < q.N + q.step
  · obtain ⟨out', h3⟩ := isOkB_ok ad_ov
    obtain ⟨v, st', h4, h5⟩ := (adS_ok hq (ov := true) (decide_eq_true ho).symm (base := base)).call h3
    have h4 := endV_ok h4
    subst h4
    refine h5.closed2 (E' := envAdd true) hg.symm (globF hg) (fun σ L hL => ?_) (fun σ V hV τ => ?_) st
    · simp only [RepL, Rep, SInt.val, u64A, e20, e18, Dn.v20, Dn.v18] at hL ⊢
      exact hL
    · have e54 : decide (q.V 54 ≠ 0) = false := decide_eq_false (by rw [Dn.v54, if_neg (by omega)]; simp)
      simp only [RepL, Rep, SInt.val, u64A, Dn.v19, e54] at hV ⊢
      have : q.X = 18446744073709551615 := by unfold Dn.X; omega
      rw [this]
      exact hV
  · obtain ⟨out', h3⟩ := isOkB_ok ad_in
    obtain ⟨v, st', h4, h5⟩ := (adS_ok hq (ov := false) (decide_eq_false ho).symm (base := base)).call h3
    have h4 := endV_ok h4
    subst h4
    refine h5.closed2 (E' := envAdd false) hg.symm (globF hg) (fun σ L hL => ?_) (fun σ V hV τ => ?_) st
    · simp only [RepL, Rep, SInt.val, u64A, e20, e18, Dn.v20, Dn.v18] at hL ⊢
      exact hL
    · have e54 : decide (q.V 54 ≠ 0) = true := decide_eq_true (by rw [Dn.v54, if_pos (by omega)]; simp)
      simp only [RepL, Rep, SInt.val, u64A, Dn.v19, e54, e19] at hV ⊢
      have : q.X = q.N + q.step := by unfold Dn.X; omega
      rw [wrap_u (by omega) (by omega)] at hV
      rw [this, Int.natCast_add]
      exact hV
end Go.Ev
set_option maxRecDepth 100000
namespace Go.Ev
open Go Go.Proofs
/-! TopDue: Prog of the ticks -/
theorem partK_ok {h : T AB} : ∀ {ns : List Nat} {t : T AB} {l : List (Nat × AB)} {k : T AB → List (Nat × AB) → R} {fb : Unit → R} {out}, partK h ns t l k fb = .ok out → (∀ n b, getT t n = some b → (n, b) ∈ l ∧ getT h n = some b) →
    fb () = .ok out ∨ ∃ t' l', k t' l' = .ok out ∧ ∀ n b, getT t' n = some b → (n, b) ∈ l' ∧ getT h n = some b := by
  intro ns
  induction ns with
  | nil => intro t l k fb out e hi; exact .inr ⟨t, l, e, hi⟩
  | cons n ns ih =>
    intro t l k fb out e hi
    simp only [partK] at e
    split at e
    · rename_i b hb
      obtain ⟨t1, e1, s1⟩ := setTK_R e
      refine ih e1 (fun m c hm => ?_)
      rw [s1] at hm
      split at hm
      · rename_i g; cases hm; subst g; exact ⟨.head _, hb⟩
      · obtain ⟨h1, h2⟩ := hi m c hm; exact ⟨.tail _ h1, h2⟩
    · exact .inl e
theorem progC_ok {E : Env} (hg : E.glob = glob0f) {q : Dn} (hq : q.Ok) {lo hi : Int} (h1 : lo ≤ q.sm) (h2 : q.sm ≤ hi) {base : Nat} {args : List SV} {l : List (Nat × AB)} {sL st : St} (hl : ∀ n b, getT sL.heap n = some b → (n, b) ∈ l) (hsub : SubSt sL st) (h : progC lo hi args l sL = true) :
    CallLands Tryz.prog E q.V base 439 args st (.tup [.agg [.any, .any], .any]) ⟨st.heap, st.next + 1000⟩ := by
  obtain ⟨a, b, _, _⟩ := hq.small
  have hS : SelfOk Tryz.prog (clE lo hi) q.V base (clS lo hi) := by
    refine selfN_ok (eok (fun op k x j y v e => rSym_ok (fun r hr => ?_) (fun g hg => ?_) (logN_ok hq) e) (fun k j x v e => by cases e) (fun a j b e => by cases e)) (fun g x hx _ _ _ _ _ hr => i2g rfl hx hr) _
    · unfold clR at hr
      split at hr
      · rename_i g
        have g := eqI_ok g
        have := List.mem_singleton.1 hr
        subst this
        simp only [RlOk, rl, rlV, SInt.val]
        exact symEql (by rw [Dn.v51, decide_eq_true (by omega)])
      · cases hr
    · simp only [List.mem_cons, List.not_mem_nil, or_false] at hg
      rcases hg with rfl | rfl | rfl
      · dsimp only; rw [Dn.v51]; exact ⟨h1, h2⟩
      · dsimp only; rw [Dn.v7]; omega
      · dsimp only; rw [Dn.v8]; omega
  obtain ⟨out', h3⟩ := isOkB_ok h
  obtain ⟨v, st', h4, h5⟩ := hS.call h3
  split at h4
  · rename_i g1
    split at h4
    · rename_i g2
      split at h4
      · rename_i g3
        refine h5.frame (E' := clE lo hi) hg.symm hsub (fun n b e => sameAt_ok g2 n b (hl n b e)) ?_ (fun σ V hV => progV_ok g1 hV)
        rw [← hsub.next]; exact Nat.le_of_ble_eq_true g3
      · cases h4
    · cases h4
  · cases h4
theorem progI_ok {E : Env} (hg : E.glob = glob0f) {q : Dn} (hq : q.Ok) {base : Nat} {args : List SV} {st : St} {k : SV → St → R} {fb : Unit → R} {out} (h : progI.run args st k fb = .ok out) :
    (∃ v st', k v st' = .ok out ∧ CallLands Tryz.prog E q.V base 439 args st v st') ∨ fb () = .ok out := by
  unfold progI at h
  dsimp only at h
  split at h
  case h_2 => exact .inr h
  rename_i kb o i
  split at h
  case h_2 => exact .inr h
  rename_i g
  have g := Nat.eq_of_beq_eq_true g; subst g
  obtain ⟨hp, nx⟩ := st
  dsimp only at h
  simp only [forceN_eq] at h
  rcases partK_ok h (fun n b e => by rw [getT_leaf] at e; cases e) with hb | ⟨t, l, hk, hi⟩
  · exact .inr hb
  · split at hk
    case h_2 => exact .inr hk
    rename_i hok
    refine .inl ⟨_, _, hk, ?_⟩
    have hl : ∀ n b, getT (⟨t, nx⟩ : St).heap n = some b → (n, b) ∈ l := fun n b e => (hi n b e).1
    have hsub : SubSt ⟨t, nx⟩ ⟨hp, nx⟩ := ⟨rfl, fun n b e => (hi n b e).2⟩
    have hr : -1 ≤ q.sm ∧ q.sm ≤ 1073741824 := by unfold Dn.sm; split <;> omega
    unfold prog5 at hok
    split at hok
    case h_2 => cases hok
    rename_i c1
    split at hok
    case h_2 => cases hok
    rename_i c2
    split at hok
    case h_2 => cases hok
    rename_i c3
    split at hok
    case h_2 => cases hok
    rename_i c4
    by_cases q1 : q.sm ≤ -1
    · exact progC_ok hg hq (lo := -1) (hi := -1) (by omega) q1 hl hsub c1
    · by_cases q2 : q.sm ≤ 0
      · exact progC_ok hg hq (lo := 0) (hi := 0) (by omega) q2 hl hsub c2
      · by_cases q3 : q.sm ≤ 1
        · exact progC_ok hg hq (lo := 1) (hi := 1) (by omega) q3 hl hsub c3
        · by_cases q4 : q.sm ≤ 15
          · exact progC_ok hg hq (lo := 2) (hi := 15) (by omega) q4 hl hsub c4
          · exact progC_ok hg hq (lo := 16) (hi := 1073741824) (by omega) hr.2 hl hsub hok
end Go.Ev
