/- The tops: a verified evaluator of the program (KR4). -/
import Derived.Test.YtkfeofhifmebkaaGreatDoorKR1
import Derived.Test.YtkfeofhifmebkaaGreatDoorKR3a
import Derived.Test.YtkfeofhifmebkaaGreatDoorKR3b
import Derived.Test.YtkfeofhifmebkaaGreatDoorKR3c
set_option maxRecDepth 100000
namespace Go.Ev
open Go Go.Proofs
/-! the law of a choice, and of a round -/
theorem Chain.wp {E : Env} (hg : E.glob = glob0f) {ν : Nat → Int} {base : Nat} {w0 : World} {n : Nat} {Q : Exit → Act → World → Prop} {rest : Code} : ∀ {cs : List Code} {a : A} {st : St} {a' : A} {st' : St}, Chain E ν base 268 cs a st a' st' →
    ∀ {act : Act} {w : World}, AtS ν base w0 a st act w → (∀ act' w', AtS ν base w0 a' st' act' w' → rest.wpIn Fence.wide n Tryz.prog Q act' w') → (seqL cs rest).wpIn Fence.wide n Tryz.prog Q act w := by
  intro cs
  induction cs with
  | nil =>
    intro a st a' st' h act w k hr
    obtain ⟨rfl, rfl⟩ := h
    exact hr act w k
  | cons c cs ih =>
    intro a st a' st' h act w k hr
    obtain ⟨a1, st1, h1, h2⟩ := h
    exact wpIn_seq (AtS.lands hg h1 k fun act' w' k' => ih h2 k' hr)
theorem Chain.wp1 {E : Env} (hg : E.glob = glob0f) {ν : Nat → Int} {base : Nat} {w0 : World} {n : Nat} {Q : Exit → Act → World → Prop} {c : Code} {a : A} {st : St} {a' : A} {st' : St} (h : Chain E ν base 268 [c] a st a' st')
    {act : Act} {w : World} (k : AtS ν base w0 a st act w) (hr : ∀ act' w', AtS ν base w0 a' st' act' w' → Q .normal act' w') : c.wpIn Fence.wide n Tryz.prog Q act w := by
  obtain ⟨a1, st1, h1, rfl, rfl⟩ := h
  exact AtS.lands hg h1 k fun act' w' k' => hr act' w' k'
theorem envC_glob (c : Cs) (kind tk oc : Nat) : (envC c kind tk oc).glob = glob0f := rfl
theorem V_ok {I : Inp} (hI : I.Ok) {sl : Bool} {q : Qs} (h : Inv I sl q) {l60 ltd l40 : Option Bool} {kd r : Option Nat} (h60 : ∀ b, l60 = some b → b = decide (q.i < 60)) (hd : ∀ b, ltd = some b → b = decide (q.i < I.ds.length)) (h40 : ∀ b, l40 = some b → b = decide (q.i < 40))
    (hk : ∀ x, kd = some x → I.dk q.i = x) (hr : ∀ x, r = some x → q.i % 2 = x) : NuOk ⟨false, I.a, [], l60, ltd, l40, kd, r, Option.none, 63, Option.none⟩ q.m (I.V q).nu :=
  Vv.ok (v := I.V q) (V_good hI h) rfl (fun p s _ e => by cases p <;> cases e) (fun b e => by cases e) ⟨Nat.le_of_lt_succ (num_lt64 I q.i), Nat.le_refl _⟩ hr h60 h40 hd (fun b e => by cases e) (fun x e => by
    have := hk x e
    have h2 := tmod_small (wrap64 (I.deed q.i).1) 7 (by omega)
    unfold Inp.dk at this
    show (IntKind.wrap .u64 (I.deed q.i).1).tmod 7 = x
    omega)
theorem V_self {I : Inp} (hI : I.Ok) {sl : Bool} {q : Qs} (h : Inv I sl q) {l60 ltd l40 : Option Bool} {kd r : Option Nat} (h60 : ∀ b, l60 = some b → b = decide (q.i < 60)) (hd : ∀ b, ltd = some b → b = decide (q.i < I.ds.length)) (h40 : ∀ b, l40 = some b → b = decide (q.i < 40))
    (hk : ∀ x, kd = some x → I.dk q.i = x) (hr : ∀ x, r = some x → q.i % 2 = x) (base : Nat) : SelfOk Tryz.prog (envC (csCh l60 ltd l40 kd r) 0 9 99) (I.V q).nu base (sfC (csCh l60 ltd l40 kd r) 0 9 99) :=
  sfC_ok (V_ok hI h h60 hd h40 hk hr) (fun e => by omega) (fun e => by omega) (fun e => by omega)
theorem V_env {I : Inp} (hI : I.Ok) {sl : Bool} {q : Qs} (h : Inv I sl q) (base : Nat) : EOk Tryz.prog (envC (csCh Option.none Option.none Option.none Option.none Option.none) 0 9 99) (I.V q).nu ∧ IntrOk Tryz.prog (envC (csCh Option.none Option.none Option.none Option.none Option.none) 0 9 99) (I.V q).nu base := by
  have hN := V_ok hI h (l60 := Option.none) (ltd := Option.none) (l40 := Option.none) (kd := Option.none) (r := Option.none) (fun b e => by cases e) (fun b e => by cases e) (fun b e => by cases e) (fun b e => by cases e) (fun b e => by cases e)
  have e : envC (csCh Option.none Option.none Option.none Option.none Option.none) 0 9 99 = envC ⟨false, I.a, [], Option.none, Option.none, Option.none, Option.none, Option.none, Option.none, 63, Option.none⟩ 0 9 99 := by
    unfold envC csCh
    rw [cSym_a 0 I.a]
    rfl
  rw [e]
  exact ⟨eokC hN, intrC_ok hN (fun e => by omega) (fun e => by omega) (fun e => by omega)⟩
theorem intsC_ok (ν : Nat → Int) : ∀ p ∈ intsC, p.1.val ν = p.2.val ν := by
  intro p hp
  simp only [intsC, at2, List.mem_cons, List.not_mem_nil, or_false] at hp
  rcases hp with rfl | rfl | rfl | rfl | rfl | rfl | rfl <;> rfl
theorem V_log (I : Inp) (q : Qs) : ∀ p ∈ [(5000, 0, 5000)], (I.V q).nu p.2.2 = (I.V q).nu p.1 + (p.2.1 : Nat) := by
  intro p hp
  have := List.mem_singleton.1 hp
  subst this
  show (I.V q).nu 5000 = (I.V q).nu 5000 + ((0 : Nat) : Int)
  omega
theorem V_zero (I : Inp) (q : Qs) : (I.V q).nu 0 = 0 := (I.V q).lo_eq (by omega)
theorem V_51 (I : Inp) (q : Qs) : (I.V q).nu 51 = (I.num q.i : Nat) := (I.V q).lo_eq (by omega)
theorem choA_of {I : Inp} (hI : I.Ok) {sl : Bool} {q : Qs} (h : Inv I sl q) (hi : q.i < 60) (hn : ¬ (q.i < I.ds.length ∧ q.i < 40)) {ltd l40 : Option Bool} {r kind : Nat} (hok : okA q.k ltd l40 r kind = true) (hd : ∀ b, ltd = some b → b = decide (q.i < I.ds.length)) (h40 : ∀ b, l40 = some b → b = decide (q.i < 40)) (hr : q.i % 2 = r) (base : Nat) (w0 : World) :
    ∃ E a' st', E.glob = glob0f ∧ Chain E (I.V q).nu base 268 [cpHead, cp16, cp17] (stA q.k) (stS q.k) a' st' ∧ ∀ act w, AtS (I.V q).nu base w0 a' st' act w → AtS (I.V q).nu base w0 (set14 (stA q.k)) (stepS kind (numX kind) (stS q.k)) act w := by
  have hS := V_self hI h (l60 := some true) (ltd := ltd) (l40 := l40) (kd := Option.none) (r := some r) (fun b e => by cases e; exact (decide_eq_true hi).symm) hd h40 (fun x e => by cases e) (fun x e => by cases e; exact hr) base
  obtain ⟨out, ho⟩ := isOkB_ok hok
  obtain ⟨a', st', h1, h2⟩ := runCs_chain hS Tryz.func6 ho
  refine ⟨_, a', st', envC_glob _ 0 9 99, h2, fun act w k => finR_at h1 (fun p hp => ?_) (fun _ _ => rfl) (V_log I q) (V_zero I q) k⟩
  rcases List.mem_cons.1 hp with rfl | hp
  · show (I.V q).nu 63 = (I.V q).nu 51
    rw [V_51, show (I.V q).nu 63 = ((q.i : Int).tdiv 2).tmod 4 from (I.V q).lo_eq (by omega)]
    unfold Inp.num
    rw [if_neg hn, Int.tdiv_eq_ediv_of_nonneg (by omega), Int.tmod_eq_emod_of_nonneg (by omega)]
    omega
  · exact intsC_ok _ p hp
theorem allN_at {n : Nat} {f : Nat → Bool} (h : allN n f = true) {k : Nat} (hk : k < n) : f k = true := allN_ok (f := f) h k hk
theorem choA {I : Inp} (hI : I.Ok) {sl : Bool} {q : Qs} (h : Inv I sl q) (hi : q.i < 60) (hn : ¬ (q.i < I.ds.length ∧ q.i < 40)) (base : Nat) (w0 : World) :
    ∃ E a' st', E.glob = glob0f ∧ Chain E (I.V q).nu base 268 [cpHead, cp16, cp17] (stA q.k) (stS q.k) a' st' ∧ ∀ act w, AtS (I.V q).nu base w0 a' st' act w → AtS (I.V q).nu base w0 (set14 (stA q.k)) (stepS (I.kind q.i) (numX (I.kind q.i)) (stS q.k)) act w := by
  have hc := allN_at choA_all h.k14
  obtain ⟨c1, c2, c3⟩ := and3_ok hc
  obtain ⟨c4, c5, _⟩ := and3_ok c1
  have hkind : I.kind q.i = if q.i % 2 = 0 then 2 else 1 := by unfold Inp.kind; rw [if_neg hn]
  by_cases hl : q.i < I.ds.length
  · have h4 : ¬ q.i < 40 := fun x => hn ⟨hl, x⟩
    have f1 : ∀ b, some true = some b → b = decide (q.i < I.ds.length) := fun b e => by cases e; exact (decide_eq_true hl).symm
    have f2 : ∀ b, some false = some b → b = decide (q.i < 40) := fun b e => by cases e; exact (decide_eq_false h4).symm
    by_cases g : q.i % 2 = 0
    · rw [hkind, if_pos g]; exact choA_of hI h hi hn c3 f1 f2 g base w0
    · rw [hkind, if_neg g]; exact choA_of hI h hi hn c2 f1 f2 (by omega) base w0
  · have f1 : ∀ b, some false = some b → b = decide (q.i < I.ds.length) := fun b e => by cases e; exact (decide_eq_false hl).symm
    have f2 : ∀ b, Option.none = some b → b = decide (q.i < 40) := fun b e => by cases e
    by_cases g : q.i % 2 = 0
    · rw [hkind, if_pos g]; exact choA_of hI h hi hn c5 f1 f2 g base w0
    · rw [hkind, if_neg g]; exact choA_of hI h hi hn c4 f1 f2 (by omega) base w0
theorem choB {I : Inp} (hI : I.Ok) {sl : Bool} {q : Qs} (h : Inv I sl q) (hi : q.i < 60) (hn : q.i < I.ds.length ∧ q.i < 40) (base : Nat) (w0 : World) :
    ∃ E a' st', E.glob = glob0f ∧ Chain E (I.V q).nu base 268 [cpHead, cp16, cpR17] (stA q.k) (stS q.k) a' st' ∧ ∀ act w, AtS (I.V q).nu base w0 a' st' act w → AtS (I.V q).nu base w0 (set71 (set14 (stA q.k))) (stepS 1 (.lit 0) (stS q.k)) act w := by
  have hS := V_self hI h (l60 := some true) (ltd := some true) (l40 := some true) (kd := Option.none) (r := Option.none) (fun b e => by cases e; exact (decide_eq_true hi).symm) (fun b e => by cases e; exact (decide_eq_true hn.1).symm) (fun b e => by cases e; exact (decide_eq_true hn.2).symm) (fun x e => by cases e) (fun x e => by cases e) base
  obtain ⟨out, ho⟩ := isOkB_ok (allN_at choB_all h.k14)
  obtain ⟨a', st', h1, h2⟩ := runCs_chain hS Tryz.func6 ho
  exact ⟨_, a', st', envC_glob _ 0 9 99, h2, fun act w k => finR_at h1 (intsC_ok _) (fun _ _ => rfl) (V_log I q) (V_zero I q) k⟩
theorem dk_lt (I : Inp) (i : Nat) : I.dk i < 7 := by
  have := tmod_small (wrap64 (I.deed i).1) 7 (by omega)
  unfold Inp.dk; omega
theorem choC {I : Inp} (hI : I.Ok) {sl : Bool} {q : Qs} (h : Inv I sl q) (hn : q.i < I.ds.length ∧ q.i < 40) (base : Nat) (w0 : World) :
    ∃ E a' st', E.glob = glob0f ∧ Chain E (I.V q).nu base 268 [cp19, cp20, cpB2] (set15 (set14 (stA q.k))) (deedS (stepS 1 (.lit 0) (stS q.k))) a' st' ∧ ∀ act w, AtS (I.V q).nu base w0 a' st' act w → AtS (I.V q).nu base w0 (set14 (stA q.k)) (stepS (I.kind q.i) (numX (I.kind q.i)) (stS q.k)) act w := by
  have hS := V_self hI h (l60 := Option.none) (ltd := Option.none) (l40 := Option.none) (kd := some (I.dk q.i)) (r := Option.none) (fun b e => by cases e) (fun b e => by cases e) (fun b e => by cases e) (fun x e => by cases e; rfl) (fun x e => by cases e) base
  have hkind : I.kind q.i = kindD (I.dk q.i) := by unfold Inp.kind; rw [if_pos hn]
  obtain ⟨out, ho⟩ := isOkB_ok (allN_at (allN_at choC_all h.k14) (dk_lt I q.i))
  obtain ⟨a', st', h1, h2⟩ := runCs_chain hS Tryz.func6 ho
  rw [← hkind] at h1
  refine ⟨_, a', st', envC_glob _ 0 9 99, h2, fun act w k => finR_at h1 (fun p hp => ?_) (fun _ _ => rfl) (V_log I q) (V_zero I q) k⟩
  rcases List.mem_cons.1 hp with rfl | hp
  · rfl
  rcases List.mem_cons.1 hp with rfl | hp
  · have hnum : I.num q.i = if I.dk q.i = 0 then I.addr q.i else I.page q.i := by unfold Inp.num; rw [if_pos hn]
    by_cases g : I.dk q.i = 0
    · rw [g]
      show (I.V q).nu 62 = (I.V q).nu 51
      rw [V_51, hnum, if_pos g, show (I.V q).nu 62 = (IntKind.wrap .u64 (I.deed q.i).2.2.1).tmod 64 from (I.V q).lo_eq (by omega)]
      have := tmod_small (wrap64 (I.deed q.i).2.2.1) 64 (by omega)
      unfold Inp.addr
      omega
    · have e : (match I.dk q.i with | 0 => 62 | _ => 59) = 59 := by
        generalize I.dk q.i = x at g
        cases x with
        | zero => exact absurd rfl g
        | succ => rfl
      show (I.V q).nu (match I.dk q.i with | 0 => 62 | _ => 59) = (I.V q).nu 51
      rw [e, V_51, hnum, if_neg g, show (I.V q).nu 59 = (IntKind.wrap .u64 (I.deed q.i).2.1).tmod 4 from (I.V q).lo_eq (by omega)]
      have := tmod_small (wrap64 (I.deed q.i).2.1) 4 (by omega)
      unfold Inp.page
      omega
  · exact intsC_ok _ p hp
/-! region 18 -/
def deedN (d : Int × Int × Int × Int) (j : Nat) : Int := match j with
  | 0 => d.1
  | 1 => d.2.1
  | 2 => d.2.2.1
  | _ => d.2.2.2
/-- the deeds lie below the base -/
def Inp.At (I : Inp) (base : Nat) (w0 : World) : Prop := ∀ i, i < I.ds.length → 0 ≤ I.s80 ∧ I.s80.toNat < base ∧ I.s83 = -1 ∧ ∀ j, j < 4 → w0.cell? ⟨I.s80.toNat, I.s81.toNat + i * 4 + j, Option.none⟩ = some (.int .i64 (deedN (I.deed i) j))
theorem isDn_ok {o : Option SV} (h : isDn o = true) : o = some .dead := by
  unfold isDn at h
  split at h
  · split at h
    · rfl
    · cases h
  · cases h
theorem isTop_ok {o : Option SV} (h : isTop o = true) : o = some (.top (.atom 35)) := by
  unfold isTop at h
  split at h
  · split at h
    · rw [isAt_ok h]
    · cases h
  · cases h
theorem isV_ok {o : Option SV} {v : SV} (h : isV o v = true) : o = some v := by
  unfold isV at h
  split at h
  · rw [beqSV_ok _ _ h]
  · cases h
theorem cp18_eq : cp18 = .region 18 [opr 0, opr 1, opr 2, opr 3, opr 4, opr 5].toArray false := by kernel_rfl
theorem ops18_eq : ops18 = [opr 0, opr 1, opr 2, opr 3, opr 4, opr 5] := by kernel_rfl
theorem opr0 : (opr 0).op = .move (.tmp 2) ∧ (opr 0).guard = Option.none ∧ (opr 0).dst = some 72 := ⟨by kernel_rfl, by kernel_rfl, by kernel_rfl⟩
theorem opr1 : (opr 1).op = .move (.tmp 13) ∧ (opr 1).guard = Option.none ∧ (opr 1).dst = some 73 := ⟨by kernel_rfl, by kernel_rfl, by kernel_rfl⟩
theorem opr2 : (opr 2).op = .indexAddr 68 (.tmp 72) (.tmp 73) ∧ (opr 2).guard = Option.none ∧ (opr 2).dst = some 74 := ⟨by kernel_rfl, by kernel_rfl, by kernel_rfl⟩
theorem opr3 : (opr 3).op = .load 71 (.tmp 74) ∧ (opr 3).guard = Option.none ∧ (opr 3).dst = some 75 := ⟨by kernel_rfl, by kernel_rfl, by kernel_rfl⟩
theorem RepA.at {ν : Nat → Int} {σ : Sg} {nt : Nat} {a : A} {act : Act} (k : RepA ν σ nt a act) {t : Nat} (ht : t < nt) {v : SV} (h : (flat a.tmps)[t]? = some v) (hv : v ≠ .dead) : Rep ν σ v (act.eval (.tmp t)) := by
  obtain ⟨s, W, h1, h2, h3⟩ := k.tmps.2 t ht
  rw [h] at h1; cases h1
  simpa [Act.eval, h2] using h3.resolve_left hv
theorem reg18 {I : Inp} (hI : I.Ok) {sl : Bool} {q : Qs} (h : Inv I sl q) (hn : q.i < I.ds.length ∧ q.i < 40) {base : Nat} {w0 : World} (hD : I.At base w0) {act : Act} {w : World} (k : AtS (I.V q).nu base w0 (set71 (set14 (stA q.k))) (stepS 1 (.lit 0) (stS q.k)) act w) {n : Nat} {Q : Exit → Act → World → Prop}
    (hQ : ∀ act' w', AtS (I.V q).nu base w0 (set15 (set14 (stA q.k))) (deedS (stepS 1 (.lit 0) (stS q.k))) act' w' → Q .normal act' w') : cp18.wpIn Fence.wide n Tryz.prog Q act w := by
  obtain ⟨hE, hIn⟩ := V_env hI h base
  have hS := V_self hI h (l60 := Option.none) (ltd := Option.none) (l40 := Option.none) (kd := Option.none) (r := Option.none) (fun b e => by cases e) (fun b e => by cases e) (fun b e => by cases e) (fun x e => by cases e) (fun x e => by cases e) base
  have hd := allN_at choD_all h.k14
  obtain ⟨d1, d2, d3⟩ := and3_ok hd
  obtain ⟨d4, d5, d6⟩ := and3_ok d1
  rw [getL_eq] at d2 d3 d4 d5 d6
  have d2 := isTop_ok d2
  have d3 := isV_ok d3
  have d4 := isDn_ok d4
  have d5 := isDn_ok d5
  have d6 := isDn_ok d6
  obtain ⟨out, ho⟩ := isOkB_ok (allN_at choR_all h.k14)
  have hp := putS_ok (ν := (I.V q).nu) ho
  clear ho
  obtain ⟨a75, ho, hput⟩ := hp
  have hr := regC_ok hE hIn hS _ ho
  clear ho
  obtain ⟨a', st', h1, hreg⟩ := hr
  obtain ⟨σ, k1, k2, k3⟩ := k
  have k1 : Sim Tryz.prog (envC (csCh Option.none Option.none Option.none Option.none Option.none) 0 9 99) (I.V q).nu base σ (stepS 1 (.lit 0) (stS q.k)) w := k1.env (by rfl)
  have r2 := k2.at (by omega) d2 (by intro e; cases e)
  have r13 := k2.at (by omega) d3 (by intro e; cases e)
  simp only [Rep] at r2 r13
  obtain ⟨l, e2, el⟩ := r2
  obtain ⟨hs0, hsb, hs83, hcell⟩ := hD q.i hn.1
  have e80 : (I.V q).nu 80 = I.s80 := (I.V q).lo_eq (by omega)
  have e81 : (I.V q).nu 81 = I.s81 := (I.V q).lo_eq (by omega)
  have eP : topP (I.V q).nu = some ⟨I.s80.toNat, I.s81.toNat, Option.none⟩ := by
    have e83 : (I.V q).nu 83 = I.s83 := (I.V q).lo_eq (by omega)
    unfold topP; rw [e80, e81, e83, hs83, if_neg (by omega), if_pos (by omega)]
  rw [eP] at e2
  have e35 : (I.V q).nu 35 = I.ds.length := (I.V q).lo_eq (by omega)
  have hl : l = I.ds.length := by
    have : (I.V q).nu 35 = (l : Int) := el
    omega
  have e3 : (I.V q).nu 3 = q.i := (I.V q).lo_eq (by omega)
  have e13 : act.eval (.tmp 13) = .int .i64 (q.i : Int) := by rw [r13]; show Value.int .i64 ((I.V q).nu 3) = _; rw [e3]
  rw [cp18_eq]
  refine wpIn_region_lit ?_
  refine reg18_wp (E := envC (csCh Option.none Option.none Option.none Option.none Option.none) 0 9 99) rfl hE (.inl rfl) opr0 opr1 opr2 opr3 (d := fun j => (I.V q).nu (36 + j)) k2.tmps.1 e2 e13 (by rw [hl]; exact hn.1) (fun j hj => ?_) (fun V0 V1 V2 => ?_)
  · have hk : w.cell? ⟨I.s80.toNat, I.s81.toNat + q.i * 4 + j, Option.none⟩ = w0.cell? ⟨I.s80.toNat, I.s81.toNat + q.i * 4 + j, Option.none⟩ := by
      have := k3.keep _ hsb
      unfold World.cell?
      simp only [this]
    rw [hk, hcell j hj]
    congr 1
    match j, hj with
    | 0, _ => exact congrArg _ ((I.V q).lo_eq (n := 36) (by omega)).symm
    | 1, _ => exact congrArg _ ((I.V q).lo_eq (n := 37) (by omega)).symm
    | 2, _ => exact congrArg _ ((I.V q).lo_eq (n := 38) (by omega)).symm
    | 3, _ => exact congrArg _ ((I.V q).lo_eq (n := 39) (by omega)).symm
  · rw [← ops18_eq]
    refine hreg σ w _ Fence.wide n _ k1 (hput σ _ _ (((k2.dead d4 V0).dead d5 V1).dead d6 V2) ?_) (.inl rfl) (fun σ' w' act' go r => ?_)
    · simp only [Rep, RepL, deedV]
      exact ⟨_, rfl, _, _, rfl, rfl, _, _, rfl, rfl, _, _, rfl, rfl, _, _, rfl, rfl, rfl⟩
    · refine hQ act' w' (finR_at h1 (fun p hp => ?_) (fun _ _ => rfl) (V_log I q) (V_zero I q) ⟨σ', go.2.env (by rfl), r, k3.trans (go.kept k1)⟩)
      rcases List.mem_cons.1 hp with rfl | hp
      · rfl
      rcases List.mem_cons.1 hp with rfl | hp
      · rfl
      rcases List.mem_cons.1 hp with rfl | hp
      · rfl
      rcases List.mem_cons.1 hp with rfl | hp
      · rfl
      exact intsC_ok _ p hp
end Go.Ev
set_option maxRecDepth 100000
namespace Go.Ev
open Go Go.Proofs
theorem numX_all : allB (fun e => beqSI e.x (numX e.kind)) stepTab = true := by kernel_rfl
theorem cpLoop_eq : cpLoop = .seq cpHead (.seq (.block 1 (.seq cp16 (.seq cp17 cpRest))) cpR15) := by kernel_rfl
theorem cp17_eq : cp17 = .seq cpR17 (.cond (.tmp 71) (.seq cp18 (.seq cp19 (.seq cp20 cpB2))) (cdE (tlC cp17))) := by kernel_rfl
/-- a round of the loop -/
theorem round_law {I : Inp} (hI : I.Ok) {sl : Bool} {q : Qs} (h : Inv I sl q) (hi : q.i < 60) {base : Nat} {w0 : World} (hD : I.At base w0) {act : Act} {w : World} (k : AtS (I.V q).nu base w0 (stA q.k) (stS q.k) act w) {n : Nat} {Q : Exit → Act → World → Prop}
    (hQ : ∀ q' act' w', Inv I sl q' → q'.i = q.i + 1 → AtS (I.V q').nu base w0 (stA q'.k) (stS q'.k) act' w' → Q .normal act' w') : cpLoop.wpIn Fence.wide n Tryz.prog Q act w := by
  obtain ⟨e, he⟩ := hit h
  obtain ⟨ar, sr, hrest, hpost⟩ := hit_law hI h he base w0
  have hx := beqSI_ok (allB_ok (f := fun e => beqSI e.x (numX e.kind)) numX_all e he.mem)
  rw [he.k, hx, he.kind] at hrest
  have fin : ∀ act' w', AtS (I.V q).nu base w0 ar sr act' w' → Q .normal act' w' := fun act' w' k' => hQ _ act' w' (inv_next hI h hi he) rfl (hpost act' w' k')
  obtain ⟨b1, t1, m1, b2, t2, m2, e1, e2⟩ := hrest
  obtain ⟨rfl, rfl⟩ : b2 = ar ∧ t2 = sr := ⟨e1, e2⟩
  rw [cpLoop_eq]
  by_cases hn : q.i < I.ds.length ∧ q.i < 40
  · obtain ⟨E, a', st', hg, ⟨a1, s1, l1, a2, s2, l2, a3, s3, l3, x1, x2⟩, hp⟩ := choB hI h hi hn base w0
    obtain ⟨E2, a'', st'', hg2, hc2, hp2⟩ := choC hI h hn base w0
    subst x1; subst x2
    refine wpIn_seq (AtS.lands hg l1 k fun act1 w1 k1 => wpIn_seq (wpIn_block (wpIn_seq (AtS.lands hg l2 k1 fun act2 w2 k2 => wpIn_seq ?_))))
    rw [cp17_eq]
    refine wpIn_seq (AtS.lands hg l3 k2 fun act3 w3 k3 => ?_)
    have k3 := hp act3 w3 k3
    have ht : act3.eval (.tmp 71) = .bool true := by
      obtain ⟨σ, _, r, _⟩ := k3
      obtain ⟨c1, _, _⟩ := and3_ok (allN_at choT_all h.k14)
      rw [getL_eq] at c1
      have := r.at (by omega) (isV_ok c1) (by intro e; cases e)
      simpa only [Rep] using this
    refine wpIn_cond_true ht (wpIn_seq (reg18 hI h hn hD k3 fun act4 w4 k4 => ?_))
    obtain ⟨c1, d1, o1, c2, d2, o2, c3, d3, o3, y1, y2⟩ := hc2
    subst y1; subst y2
    refine wpIn_seq (AtS.lands hg2 o1 k4 fun act5 w5 k5 => wpIn_seq (AtS.lands hg2 o2 k5 fun act6 w6 k6 => AtS.lands hg2 o3 k6 fun act7 w7 k7 => ?_))
    have k7 := hp2 act7 w7 k7
    exact AtS.lands (envC_glob _ _ _ _) m1 k7 fun act8 w8 k8 => AtS.lands (envC_glob _ _ _ _) m2 k8 fun act9 w9 k9 => fin act9 w9 k9
  · obtain ⟨E, a', st', hg, ⟨a1, s1, l1, a2, s2, l2, a3, s3, l3, x1, x2⟩, hp⟩ := choA hI h hi hn base w0
    subst x1; subst x2
    refine wpIn_seq (AtS.lands hg l1 k fun act1 w1 k1 => wpIn_seq (wpIn_block (wpIn_seq (AtS.lands hg l2 k1 fun act2 w2 k2 => wpIn_seq (AtS.lands hg l3 k2 fun act3 w3 k3 => ?_)))))
    have k3 := hp act3 w3 k3
    exact AtS.lands (envC_glob _ _ _ _) m1 k3 fun act8 w8 k8 => AtS.lands (envC_glob _ _ _ _) m2 k8 fun act9 w9 k9 => fin act9 w9 k9
/-- the loop's number, in the machine -/
def slotI (act : Act) : Nat := match act.eval (.tmp 13) with
  | .int _ x => (60 - x).toNat
  | _ => 0
theorem slotI_at {I : Inp} {sl : Bool} {q : Qs} (h : Inv I sl q) {base : Nat} {w0 : World} {act : Act} {w : World} (k : AtS (I.V q).nu base w0 (stA q.k) (stS q.k) act w) : slotI act = 60 - q.i := by
  obtain ⟨σ, _, r, _⟩ := k
  obtain ⟨_, c2, _⟩ := and3_ok (allN_at choT_all h.k14)
  rw [getL_eq] at c2
  have := r.at (by omega) (isV_ok c2) (by intro e; cases e)
  simp only [Rep] at this
  have e3 : (I.V q).nu 3 = q.i := (I.V q).lo_eq (by omega)
  unfold slotI
  rw [this]
  show (60 - (I.V q).nu 3).toNat = _
  rw [e3]; omega
theorem head_end {I : Inp} (hI : I.Ok) {sl : Bool} {q : Qs} (h : Inv I sl q) (hi : ¬ q.i < 60) (base : Nat) (w0 : World) :
    ∃ E a' st', E.glob = glob0f ∧ Lands Tryz.prog E (I.V q).nu base 268 cpHead Option.none (stA q.k) (stS q.k) (.exit 0) a' st' ∧ ∀ act w, AtS (I.V q).nu base w0 a' st' act w → AtS (I.V q).nu base w0 (stA q.k) (stS q.k) act w := by
  have hS := V_self hI h (l60 := some false) (ltd := Option.none) (l40 := Option.none) (kd := Option.none) (r := Option.none) (fun b e => by cases e; exact (decide_eq_false hi).symm) (fun b e => by cases e) (fun b e => by cases e) (fun x e => by cases e) (fun x e => by cases e) base
  obtain ⟨out, ho⟩ := isOkB_ok (allN_at choL_all h.k14)
  have h0 := hS.code ho
  clear ho
  obtain ⟨e, a1, st1, h1, F0, hF0, hl⟩ := h0
  have hF : F0 = Tryz.f6 := by have := Tryz.func6; rw [hF0] at this; cases this; rfl
  subst hF
  cases e <;> dsimp only at h1 <;> try (cases h1; done)
  rename_i j
  split at h1
  · rename_i g
    have g := Nat.eq_of_beq_eq_true g
    subst g
    exact ⟨_, a1, st1, envC_glob _ 0 9 99, hl, fun act w k => finR_at h1 (intsC_ok _) (fun _ _ => rfl) (V_log I q) (V_zero I q) k⟩
  · cases h1
/-- the loop -/
theorem loop_law {I : Inp} (hI : I.Ok) {sl : Bool} {q : Qs} (h : Inv I sl q) {base : Nat} {w0 : World} (hD : I.At base w0) {act : Act} {w : World} (k : AtS (I.V q).nu base w0 (stA q.k) (stS q.k) act w) {n : Nat} {Q : Exit → Act → World → Prop}
    (hQ : ∀ q' act' w', Inv I sl q' → rank q'.k = 0 → AtS (I.V q').nu base w0 (stA q'.k) (stS q'.k) act' w' → Q .normal act' w') : (Code.block 0 (.loop cpLoop)).wpIn Fence.wide n Tryz.prog Q act w := by
  refine wpIn_block (wpIn_loop (fun a W => ∃ q, Inv I sl q ∧ AtS (I.V q).nu base w0 (stA q.k) (stS q.k) a W) (fun a _ => slotI a) ⟨q, h, k⟩ ?_)
  rintro a W ⟨q, h, k⟩
  by_cases hi : q.i < 60
  · refine round_law hI h hi hD k fun q' act' w' h' hi' k' => ?_
    refine ⟨⟨q', h', k'⟩, ?_⟩
    rw [slotI_at h' k', slotI_at h k]
    omega
  · obtain ⟨E, a', st', hg, hl, hp⟩ := head_end hI h hi base w0
    rw [cpLoop_eq]
    refine wpIn_seq (AtS.lands hg hl k fun act1 w1 k1 => ?_)
    exact hQ q act1 w1 h (h.r0 (by omega)) (hp act1 w1 k1)
theorem cpBody_eq : cpBody = .seq (hdC (cpAt 0)) (.seq (hdC (cpAt 1)) (.seq (hdC (cpAt 2)) (.seq (hdC (cpAt 3)) (.seq (hdC (cpAt 4)) (.seq (hdC (cpAt 5)) (.seq (hdC (cpAt 6)) (.seq (hdC (cpAt 7)) (.seq (hdC (cpAt 8)) (.seq (hdC (cpAt 9)) (.seq (.seq (hdC (hdC (cpAt 10))) (.block 0 (.loop cpLoop))) cpEnd)))))))))) := by kernel_rfl
theorem f6_body : Tryz.f6.body = some cpBody := by kernel_rfl
theorem f6_nt : Tryz.f6.ntmps = 268 := by kernel_rfl
def q00 (sl : Bool) : Qs := ⟨if sl = true then 0 else 9, 0, 2, fun _ => 0, fun _ => 0, 0, -1, 0, 0, 0⟩
theorem inv0 (I : Inp) (sl : Bool) : Inv I sl (q00 sl) := by
  refine ⟨?_, by show 0 ≤ 60; omega, by show 1 ≤ 2 ∧ 2 ≤ 500 + 40 * 0; omega, fun p => by show 0 < 3; omega, fun j => by show 0 < 256; omega, fun hk => ?_, fun _ => rfl, fun p hp g => ?_, fun g => ?_, fun g => ?_⟩
  · cases sl
    · exact ⟨Nat.le_refl _, by show 9 < 14; omega⟩
    · show 0 < 9; omega
  · cases sl
    · have : (9 : Nat) = 2 := hk
      omega
    · have : (0 : Nat) = 2 := hk
      omega
  · have : 40 + 2 * p < 0 := g; omega
  · have : 49 < 0 := g; omega
  · have : 51 < 0 := g; omega
theorem pro_law {I : Inp} (hI : I.Ok) (sl : Bool) (base : Nat) (w0 : World) :
    ∃ E a' st', E.glob = glob0f ∧ Chain E (I.V (q00 sl)).nu base 268 proC (a00 sl) ⟨.leaf, 0⟩ a' st' ∧ ∀ act w, AtS (I.V (q00 sl)).nu base w0 a' st' act w → AtS (I.V (q00 sl)).nu base w0 (stA (q00 sl).k) (stS (q00 sl).k) act w := by
  have hS := V_self hI (inv0 I sl) (l60 := Option.none) (ltd := Option.none) (l40 := Option.none) (kd := Option.none) (r := Option.none) (fun b e => by cases e) (fun b e => by cases e) (fun b e => by cases e) (fun x e => by cases e) (fun x e => by cases e) base
  have hok : okPro sl (q00 sl).k = true := by
    cases sl
    · exact proF
    · exact proT
  obtain ⟨out, ho⟩ := isOkB_ok hok
  obtain ⟨a', st', h1, h2⟩ := runCs_chain hS Tryz.func6 ho
  refine ⟨_, a', st', envC_glob _ 0 9 99, h2, fun act w k => finR_at h1 (fun p hp => ?_) (fun _ _ => rfl) (fun p hp => ?_) (V_zero I _) k⟩
  · rcases List.mem_cons.1 hp with rfl | hp
    · exact ((I.V (q00 sl)).lo_eq (n := 3) (by omega)).symm
    rcases List.mem_cons.1 hp with rfl | hp
    · show (2 : Int) = (I.V (q00 sl)).nu (5000 + 0)
      rw [(I.V (q00 sl)).nuL]; rfl
    have hz : ∀ n s, (∀ j, s ≤ j → j < s + n → (I.V (q00 sl)).nu j = 0) → ∀ p ∈ zer s n, p.1.val (I.V (q00 sl)).nu = p.2.val (I.V (q00 sl)).nu := by
      intro n
      induction n with
      | zero => intro s _ p hp; cases hp
      | succ n ih =>
        intro s hs p hp
        rcases List.mem_cons.1 hp with rfl | hp
        · exact (hs s (by omega) (by omega)).symm
        · exact ih (s + 1) (fun j h1 h2 => hs j (by omega) (by omega)) p hp
    rcases List.mem_append.1 hp with hp | hp
    · refine hz 4 10 (fun j h1 h2 => ?_) p hp
      have := (I.V (q00 sl)).nuP (j := j - 10) (by omega)
      rw [show 10 + (j - 10) = j by omega] at this
      rw [this]; rfl
    · refine hz 64 100 (fun j h1 h2 => ?_) p hp
      have := (I.V (q00 sl)).nuM (j := j - 100) (by omega)
      rw [show 100 + (j - 100) = j by omega] at this
      rw [this]; rfl
  · have := List.mem_singleton.1 hp
    subst this
    show (I.V (q00 sl)).nu (5000 + 0) = (I.V (q00 sl)).nu 0 + ((2 : Nat) : Int)
    rw [(I.V (q00 sl)).nuL, V_zero]; rfl
theorem end_ok {k : Nat} (h14 : k < 14) (hr : rank k = 0) : okFin k = true := by
  have h1 := allB_ok endF
  have : k = 4 ∨ k = 6 ∨ k = 7 ∨ k = 8 ∨ k = 12 ∨ k = 13 := by
    have : ∀ k, k < 14 → rank k = 0 → k = 4 ∨ k = 6 ∨ k = 7 ∨ k = 8 ∨ k = 12 ∨ k = 13 := by decide
    exact this k h14 hr
  rcases this with rfl | rfl | rfl | rfl | rfl | rfl
  · exact h1 4 (by simp)
  · exact h1 6 (by simp)
  · exact h1 7 (by simp)
  · exact h1 8 (by simp)
  · exact h1 12 (by simp)
  · exact h1 13 (by simp)
/-- the end: the function answers true -/
theorem end_law {I : Inp} (hI : I.Ok) {sl : Bool} {q : Qs} (h : Inv I sl q) (hr : rank q.k = 0) {base : Nat} {w0 : World} {act : Act} {w : World} (k : AtS (I.V q).nu base w0 (stA q.k) (stS q.k) act w) {n : Nat} {R : Ending → World → Prop}
    (hR : ∀ w', BaseKept base w0 w' → R (.returned (.bool true)) w') : cpEnd.wpIn Fence.wide n Tryz.prog (bodyPostM Fence.wide n Tryz.prog Tryz.f6 R) act w := by
  have hS : SelfOk Tryz.prog (envC csN 0 9 99) (I.V q).nu base (sfC csN 0 9 99) := V_self hI h (l60 := Option.none) (ltd := Option.none) (l40 := Option.none) (kd := Option.none) (r := Option.none) (fun b e => by cases e) (fun b e => by cases e) (fun b e => by cases e) (fun x e => by cases e) (fun x e => by cases e) base
  obtain ⟨hE, _⟩ := V_env hI h base
  obtain ⟨out, ho⟩ := isOkB_ok (end_ok h.k14 hr)
  have h0 := hS.code ho
  clear ho
  obtain ⟨e, a1, st1, h1, F0, hF0, hl⟩ := h0
  have hF : F0 = Tryz.f6 := by have := Tryz.func6; rw [hF0] at this; cases this; rfl
  subst hF
  cases e <;> dsimp only at h1 <;> try (cases h1; done)
  have h0 := closeK_ok (P := Tryz.prog) (E := envC csN 0 9 99) (ν := (I.V q).nu) (base := base) h1
  clear h1
  obtain ⟨st2, h2, hclose⟩ := h0
  have h0 := resultsC_ok (base := base) hE h2
  clear h2
  obtain ⟨vs, h3, hres⟩ := h0
  obtain ⟨σ, k1, k2, k3⟩ := k
  have k1' : Sim Tryz.prog (envC csN 0 9 99) (I.V q).nu base σ (stS q.k) w := k1.env (by rfl)
  refine hl σ w act Fence.wide n _ k1' k2 rfl (fun σ1 w1 act1 go1 ha1 => ?_)
  show LeavesInM Fence.wide n Tryz.prog Tryz.f6 act1.tmps R act1.defers .returning w1
  obtain ⟨Ds, q1, q2, q3⟩ := ha1.defers
  rw [q1]
  refine hclose σ1 w1 n _ act1.tmps R Ds go1.2 q2 q3 (fun w2 go2 => ?_)
  obtain ⟨Vs, r1, r2⟩ := hres σ1 w2 act1 go2.2 ha1
  refine ⟨_, results_run r1, ?_⟩
  split at h3
  · rename_i v
    unfold finT at h3
    split at h3
    · split at h3
      · simp only [RepL, Rep] at r2
        obtain ⟨V, Us, rfl, rfl, rfl⟩ := r2
        have := hR w2 (k3.trans (((go1.trans go2)).kept k1'))
        simpa using this
      · cases h3
    · cases h3
  · cases h3
/-- TopCopies, from any world that holds the tables and the deeds -/
theorem copies_calls {I : Inp} (hI : I.Ok) (sl : Bool) {W : World} (hD : I.At W.heap.size W) (hG : ∀ g cs, glob0f g = some cs → g < W.heap.size ∧ ∃ C t f, W.heap[g]? = some (.cells C t f) ∧ ∀ σ, RepL (I.V (q00 sl)).nu σ cs C.toList) {V2 : Value} (h2 : V2 = .slice (topP (I.V (q00 sl)).nu) I.ds.length (topC (I.V (q00 sl)).nu)) {n : Nat} {R : Ending → World → Prop}
    (hR : ∀ w', BaseKept W.heap.size W w' → R (.returned (.bool true)) w') : CallsIn Fence.wide n Tryz.prog 6 #[.bool sl, .int .i64 I.raw, V2] W R := by
  refine callsIn_of_wp_marks Tryz.func6 f6_body trivial ?_
  obtain ⟨E, a', st', hg, hc, hp⟩ := pro_law hI sl W.heap.size W
  have k0 : AtS (I.V (q00 sl)).nu W.heap.size W (a00 sl) ⟨.leaf, 0⟩ { tmps := #[.bool sl, .int .i64 I.raw, V2] ++ Array.replicate (Tryz.f6.ntmps - 3) undef, defers := [] } W := by
    refine ⟨fun _ => Option.none, ⟨fun _ _ => rfl, (fun n b e => by cases e), (fun n m b c bl z y e => by cases e), (fun g cs e => ?_), Nat.le_refl _⟩, ⟨⟨?_, fun t ht => ?_⟩, [], rfl, rfl, fun i m D e => by simp [a00] at e⟩, .refl W⟩
    · obtain ⟨h1, C, t, f, h3, h4⟩ := hG g cs e
      exact ⟨h1, C, t, f, h3, h4 _⟩
    · show (#[Value.bool sl, .int .i64 I.raw, V2] ++ Array.replicate (Tryz.f6.ntmps - 3) undef).size = 268
      rw [f6_nt, Array.size_append, Array.size_replicate]; rfl
    · have hfl : flat (a00 sl).tmps = [.bool sl, .int .i64 (.atom 1), .top (.atom 35)] ++ List.replicate 269 undefS := by
        cases sl <;> rfl
      rw [hfl]
      show ∃ s U, ([SV.bool sl, .int .i64 (.atom 1), .top (.atom 35)] ++ List.replicate 269 undefS)[t]? = some s ∧ (#[Value.bool sl, .int .i64 I.raw, V2] ++ Array.replicate (Tryz.f6.ntmps - 3) undef)[t]? = some U ∧ DRep (I.V (q00 sl)).nu (fun _ => Option.none) s U
      rw [f6_nt]
      by_cases ht3 : t < 3
      · rw [List.getElem?_append_left (by simpa using ht3), Array.getElem?_append_left (by simpa using ht3)]
        match t, ht3 with
        | 0, _ => exact ⟨.bool sl, .bool sl, rfl, rfl, .inr (by simp only [Rep])⟩
        | 1, _ => exact ⟨.int .i64 (.atom 1), .int .i64 I.raw, rfl, rfl, .inr (by simp only [Rep]; exact congrArg _ ((I.V (q00 sl)).lo_eq (n := 1) (by omega)).symm)⟩
        | 2, _ => exact ⟨.top (.atom 35), V2, rfl, rfl, .inr (by simp only [Rep]; exact ⟨_, h2, (I.V (q00 sl)).lo_eq (n := 35) (by omega)⟩)⟩
      · refine ⟨undefS, undef, ?_, ?_, .inr (undef_rep _)⟩
        · rw [List.getElem?_append_right (by simp; omega), List.getElem?_replicate, if_pos (by simp; omega)]
        · rw [Array.getElem?_append_right (by simp; omega), Array.getElem?_replicate, if_pos (by simp; omega)]
  obtain ⟨a1, s1, l1, a2, s2, l2, a3, s3, l3, a4, s4, l4, a5, s5, l5, a6, s6, l6, a7, s7, l7, a8, s8, l8, a9, s9, l9, a10, s10, l10, a11, s11, l11, x1, x2⟩ := hc
  subst x1; subst x2
  rw [cpBody_eq]
  refine wpIn_seq (AtS.lands hg l1 k0 fun act1 w1 k1 => wpIn_seq (AtS.lands hg l2 k1 fun act2 w2 k2 => wpIn_seq (AtS.lands hg l3 k2 fun act3 w3 k3 => wpIn_seq (AtS.lands hg l4 k3 fun act4 w4 k4 => wpIn_seq (AtS.lands hg l5 k4 fun act5 w5 k5 => wpIn_seq (AtS.lands hg l6 k5 fun act6 w6 k6 => wpIn_seq (AtS.lands hg l7 k6 fun act7 w7 k7 => wpIn_seq (AtS.lands hg l8 k7 fun act8 w8 k8 => wpIn_seq (AtS.lands hg l9 k8 fun act9 w9 k9 => wpIn_seq (AtS.lands hg l10 k9 fun act10 w10 k10 => wpIn_seq (wpIn_seq (AtS.lands hg l11 k10 fun act11 w11 k11 => ?_))))))))))))
  refine loop_law hI (inv0 I sl) hD (hp act11 w11 k11) fun q' act' w' h' hr k' => ?_
  exact end_law hI h' hr k' hR
end Go.Ev
