/- The tops: a verified evaluator of the program (EvD). -/
import Derived.Test.YtkfeofhifmebkaaGreatDoorEvC
namespace Go.Ev
open Go
variable {ν : Nat → Int} {P : Program} {E : Env} {base : Nat}

/-- values that name no block -/
def freeSV : SV → Bool
  | .int _ (.lit _) => true
  | .bool _ => true
  | .str _ => true
  | .nilp => true
  | .nils => true
  | .nilf => true
  | .nilm => true
  | .nili => true
  | .gptr _ _ => true
  | _ => false
theorem freeSV_ok {ν ν' : Nat → Int} {v : SV} (h : freeSV v = true) {σ τ : Sg} {V : Value} (k : Rep ν σ v V) : Rep ν' τ v V := by
  cases v
  case int j x =>
    cases x with
    | lit n => simp only [Rep, SInt.val] at k ⊢; exact k
    | atom i => cases h
  all_goals first | (cases h; done) | (simp only [Rep] at k ⊢; exact k)
theorem freeL_ok {ν ν' : Nat → Int} : ∀ {l : List SV}, l.all freeSV = true → ∀ {σ τ : Sg} {L : List Value}, RepL ν σ l L → RepL ν' τ l L := by
  intro l
  induction l with
  | nil => intro _ σ τ L k; simp only [RepL] at k ⊢; exact k
  | cons v l ih =>
    intro h σ τ L k
    simp only [List.all_cons, Bool.and_eq_true] at h
    simp only [RepL] at k ⊢
    obtain ⟨V, Us, e, k1, k2⟩ := k
    exact ⟨V, Us, e, freeSV_ok h.1 k1, ih h.2 k2⟩

def GlobFree (E : Env) : Prop := ∀ g cs, E.glob g = some cs → cs.all freeSV = true

theorem sim_nil {E' : Env} (hg : E'.glob = E.glob) (hf : GlobFree E) {σ : Sg} {st : St} {w : World} (h : Sim P E ν base σ st w) : Sim P E' ν base (fun _ => none) ⟨.leaf, 0⟩ w :=
  ⟨fun _ _ => rfl, fun n b e => (by rw [getT_leaf] at e; cases e), fun n m b c bl z y e => (by rw [getT_leaf] at e; cases e), fun g cs e => by
    rw [hg] at e
    obtain ⟨h1, C, t, f, h2, h3⟩ := h.glob g cs e
    exact ⟨h1, C, t, f, h2, freeL_ok (hf g cs e) h3⟩, h.size⟩

/-- a closed call, whose answer names no block: from any state, and all that it made is forgotten -/
theorem CallLands.closed {E' : Env} (hg : E'.glob = E.glob) (hf : GlobFree E) {f : FuncId} {args : List SV} {v : SV} {st' : St} (h : CallLands P E' ν base f args ⟨.leaf, 0⟩ v st') (ha : args.all freeSV = true) (hv : freeSV v = true) (st : St) :
    CallLands P E ν base f args st v st := by
  refine ⟨h.1, fun σ w Args n R hs hA hR => h.2 (fun _ => none) w Args n R (sim_nil hg hf hs) (freeL_ok ha hA) (fun σ' w' V go hV => ?_)⟩
  have hk : ∀ b, b < w.heap.size → w'.heap[b]? = w.heap[b]? := fun b hb => go.1.keep b hb (fun n c z e => by rw [getT_leaf] at e; cases e)
  have hk' : ∀ b o, w.heap[b]? = some o → w'.heap[b]? = some o := fun b o e => by rw [hk b (Array.getElem?_eq_some_iff.1 e).1]; exact e
  refine hR σ w' V ⟨⟨fun _ _ => rfl, Nat.le_refl _, go.1.size, fun b hb _ => hk b hb, fun n c b z hn e => .inl ⟨n, c, z, hn, e⟩, go.1.os, go.1.tape, go.1.output⟩, ?_⟩ (freeSV_ok hv hV)
  refine ⟨hs.fresh, fun n b e => ?_, hs.inj, fun g cs e => ?_, Nat.le_trans hs.size go.1.size⟩
  · obtain ⟨bl, z, o, h1, h2, h3, h4⟩ := hs.blk n b e
    exact ⟨bl, z, o, h1, h2, hk' _ _ h3, h4⟩
  · obtain ⟨h1, C, t, f, h2, h3⟩ := hs.glob g cs e
    exact ⟨h1, C, t, f, hk' _ _ h2, h3⟩

/-- a closed call, whose answer is a slice of values that name no block -/
theorem CallLands.fresh {E' : Env} (hg : E'.glob = E.glob) (hf : GlobFree E) {f : FuncId} {args : List SV} {n0 : Nat} {len : SInt} {st' : St} {cs : List SV} {t : TypeId} {cap : Option Nat} (h : CallLands P E' ν base f args ⟨.leaf, 0⟩ (.slc n0 0 len cap) st') (ha : args.all freeSV = true)
    (hb : getT st'.heap n0 = some (.cells cs t)) (hc : cs.all freeSV = true) {st st1 : St} (hn : st1.next = st.next + 1) (hh : ∀ m, getT st1.heap m = if m = st.next then some (.cells cs t) else getT st.heap m) :
    CallLands P E ν base f args st (.slc st.next 0 len cap) st1 := by
  refine ⟨h.1, fun σ w Args n R hs hA hR => h.2 (fun _ => none) w Args n R (sim_nil hg hf hs) (freeL_ok ha hA) (fun σ' w' V go hV => ?_)⟩
  have hk : ∀ b, b < w.heap.size → w'.heap[b]? = w.heap[b]? := fun b hb => go.1.keep b hb (fun n c z e => by rw [getT_leaf] at e; cases e)
  have hk' : ∀ b o, w.heap[b]? = some o → w'.heap[b]? = some o := fun b o e => by rw [hk b (Array.getElem?_eq_some_iff.1 e).1]; exact e
  simp only [Rep] at hV
  obtain ⟨b, z, l, c, e1, rfl, e2, e3, e4, e5⟩ := hV
  obtain ⟨b', z', o, k1, k2, k3, k4⟩ := go.2.blk n0 _ hb
  rw [e1] at k1; cases k1
  have hbn : w.heap.size ≤ b := by
    rcases go.1.dom n0 _ b z hb e1 with ⟨m, d, y, g, _⟩ | g
    · rw [getT_leaf] at g; cases g
    · exact g
  have hle : σ.le (σ.add st.next (b, z)) := Sg.le_add _ (hs.fresh _ (Nat.le_refl _))
  have old : ∀ m c, m ≠ st.next → getT st1.heap m = some c → getT st.heap m = some c := fun m c hm e => by rw [hh, if_neg hm] at e; exact e
  refine hR (σ.add st.next (b, z)) w' _ ⟨⟨fun m hm => Sg.add_ne _ _ (by omega), by omega, go.1.size, fun b hb _ => hk b hb, fun m c b1 y hm eb => ?_, go.1.os, go.1.tape, go.1.output⟩, ?_⟩ (by
    simp only [Rep]
    exact ⟨b, z, l, c, Sg.add_self _ _ _, rfl, e2, e3, e4, e5⟩)
  · by_cases e : m = st.next
    · subst e; rw [Sg.add_self] at eb; cases eb; exact .inr hbn
    · rw [Sg.add_ne _ _ e] at eb; exact .inl ⟨m, c, y, old m c e hm, eb⟩
  refine ⟨fun m hm => ?_, fun m c hm => ?_, fun m k c d x y u hm hk2 em ek => ?_, fun g cs e => ?_, Nat.le_trans hs.size go.1.size⟩
  · rw [Sg.add_ne _ _ (by omega)]; exact hs.fresh m (by omega)
  · by_cases e : m = st.next
    · subst e
      rw [hh, if_pos rfl] at hm; cases hm
      refine ⟨b, z, o, Sg.add_self _ _ _, k2, k3, ?_⟩
      obtain ⟨C, g1, g2⟩ := k4
      exact ⟨C, g1, freeL_ok hc g2⟩
    · obtain ⟨bl, y, x, h1, h2, h3, h4⟩ := hs.blk m c (old m c e hm)
      exact ⟨bl, y, x, hle _ _ h1, h2, hk' _ _ h3, h4.mono hle⟩
  · have lt : ∀ m c x y, getT st.heap m = some c → σ m = some (x, y) → x < w.heap.size := fun m c x y e1 e2 => by
      obtain ⟨bl, y', o', h1, h2, h3, h4⟩ := hs.blk m c e1
      rw [e2] at h1; cases h1
      exact (Array.getElem?_eq_some_iff.1 h3).1
    by_cases e : m = st.next
    · by_cases e' : k = st.next
      · omega
      · subst e; rw [Sg.add_self] at em; cases em
        rw [Sg.add_ne _ _ e'] at ek
        have := lt k d _ _ (old k d e' hk2) ek; omega
    · by_cases e' : k = st.next
      · subst e'; rw [Sg.add_self] at ek; cases ek
        rw [Sg.add_ne _ _ e] at em
        have := lt m c _ _ (old m c e hm) em; omega
      · rw [Sg.add_ne _ _ e] at em; rw [Sg.add_ne _ _ e'] at ek
        exact hs.inj m k c d x y u (old m c e hm) (old k d e' hk2) em ek
  · obtain ⟨h1, C, t, f, h2, h3⟩ := hs.glob g cs e
    exact ⟨h1, C, t, f, hk' _ _ h2, h3.mono hle⟩
end Go.Ev
namespace Go.Ev
open Go
variable {ν : Nat → Int} {P : Program} {E : Env} {base : Nat}

/-! states that hold no more than another one -/
def beqNL : List Nat → List Nat → Bool
  | [], [] => true
  | a :: l, b :: m => match Nat.beq a b with
    | true => beqNL l m
    | false => false
  | _, _ => false
theorem beqNL_ok : ∀ {l m : List Nat}, beqNL l m = true → l = m := by
  intro l
  induction l with
  | nil => intro m h; cases m with
    | nil => rfl
    | cons => cases h
  | cons a l ih =>
    intro m h
    cases m with
    | nil => cases h
    | cons b m =>
      simp only [beqNL] at h
      split at h
      · rename_i g; rw [Nat.eq_of_beq_eq_true g, ih h]
      · cases h
def beqON : Option Nat → Option Nat → Bool
  | .none, .none => true
  | .some a, .some b => Nat.beq a b
  | _, _ => false
theorem beqON_ok {a b : Option Nat} (h : beqON a b = true) : a = b := by
  unfold beqON at h
  split at h
  · rfl
  · rw [Nat.eq_of_beq_eq_true h]
  · cases h
def beqMEs : List ME → List ME → Bool
  | [], [] => true
  | a :: l, b :: m => match a with
    | ⟨k, v, x⟩ => match b with
      | ⟨j, u, y⟩ => match beqSV k j with
        | true => match beqSV v u with
          | true => match Nat.beq x y with
            | true => beqMEs l m
            | false => false
          | false => false
        | false => false
  | _, _ => false
theorem beqMEs_ok : ∀ {l m : List ME}, beqMEs l m = true → l = m := by
  intro l
  induction l with
  | nil => intro m h; cases m with
    | nil => rfl
    | cons => cases h
  | cons a l ih =>
    intro m h
    cases m with
    | nil => cases h
    | cons b m =>
      cases a; cases b
      simp only [beqMEs] at h
      split at h
      · rename_i g1
        split at h
        · rename_i g2
          split at h
          · rename_i g3
            rw [beqSV_ok _ _ g1, beqSV_ok _ _ g2, Nat.eq_of_beq_eq_true g3, ih h]
          · cases h
        · cases h
      · cases h
def beqPs : List (Nat × SV) → List (Nat × SV) → Bool
  | [], [] => true
  | a :: l, b :: k => match a with
    | (i, v) => match b with
      | (j, w) => match Nat.beq i j with
        | true => match beqSV v w with
          | true => beqPs l k
          | false => false
        | false => false
  | _, _ => false
theorem beqPs_ok : ∀ {l k : List (Nat × SV)}, beqPs l k = true → l = k := by
  intro l
  induction l with
  | nil => intro k h; cases k with
    | nil => rfl
    | cons => cases h
  | cons a l ih =>
    intro k h
    cases k with
    | nil => cases h
    | cons b k =>
      obtain ⟨i, v⟩ := a
      obtain ⟨j, w⟩ := b
      simp only [beqPs] at h
      split at h
      · rename_i g1
        split at h
        · rename_i g2
          rw [Nat.eq_of_beq_eq_true g1, beqSV_ok _ _ g2, ih h]
        · cases h
      · cases h
def beqAB : AB → AB → Bool
  | .cells cs t, .cells ds u => match Nat.beq t u with
    | true => beqSVs cs ds
    | false => false
  | .vec cs t, .vec ds u => match Nat.beq t u with
    | true => beqSVs cs ds
    | false => false
  | .map es c x, .map fs d y => match Nat.beq c d with
    | true => match (match x with
        | true => y
        | false => match y with
          | true => false
          | false => true) with
      | true => beqMEs es fs
      | false => false
    | false => false
  | .miter m s l p, .miter n t k q => match beqON m n with
    | true => match Nat.beq s t with
      | true => match Nat.beq p q with
        | true => beqNL l k
        | false => false
      | false => false
    | false => false
  | .defer, .defer => true
  | .sel cs o l ps t, .sel ds o' l' qs u => match Nat.beq t u with
    | true => match Nat.beq o o' with
      | true => match Nat.beq l l' with
        | true => match beqPs ps qs with
          | true => beqSVs cs ds
          | false => false
        | false => false
      | false => false
    | false => false
  | _, _ => false
theorem beqAB_ok {a b : AB} (h : beqAB a b = true) : a = b := by
  unfold beqAB at h
  split at h
  · split at h
    · rename_i g; rw [Nat.eq_of_beq_eq_true g, beqSVs_ok _ _ h]
    · cases h
  · split at h
    · rename_i g; rw [Nat.eq_of_beq_eq_true g, beqSVs_ok _ _ h]
    · cases h
  · split at h
    · rename_i g
      split at h
      case h_2 => cases h
      rename_i g2
      rw [Nat.eq_of_beq_eq_true g, beqMEs_ok h]
      congr 1
      split at g2
      · exact g2.symm
      · split at g2
        · cases g2
        · rfl
    · cases h
  · split at h
    · rename_i g1
      split at h
      · rename_i g2
        split at h
        · rename_i g3; rw [beqON_ok g1, Nat.eq_of_beq_eq_true g2, Nat.eq_of_beq_eq_true g3, beqNL_ok h]
        · cases h
      · cases h
    · cases h
  · rfl
  · split at h
    case h_2 => cases h
    rename_i g1
    split at h
    case h_2 => cases h
    rename_i g2
    split at h
    case h_2 => cases h
    rename_i g3
    split at h
    case h_2 => cases h
    rename_i g4
    rw [Nat.eq_of_beq_eq_true g1, Nat.eq_of_beq_eq_true g2, Nat.eq_of_beq_eq_true g3, beqPs_ok g4, beqSVs_ok _ _ h]
  · cases h
/-- the first holds nothing but what the second holds -/
def subT : T AB → T AB → Bool
  | .leaf, _ => true
  | .node v l r, .node u m s => match (match v with
      | .none => true
      | .some a => match u with
        | .none => false
        | .some b => beqAB a b) with
    | true => match subT l m with
      | true => subT r s
      | false => false
    | false => false
  | .node _ _ _, .leaf => false
theorem subT_ok : ∀ {t u : T AB}, subT t u = true → ∀ n b, getT t n = some b → getT u n = some b := by
  intro t
  induction t with
  | leaf => intro u _ n b e; rw [getT_leaf] at e; cases e
  | node v l r ihl ihr =>
    intro u h n b e
    cases u with
    | leaf => cases h
    | node u m s =>
      simp only [subT] at h
      split at h
      · rename_i g1
        split at h
        · rename_i g2
          rw [getT_node] at e ⊢
          cases n with
          | zero =>
            dsimp only at e ⊢
            subst e
            dsimp only at g1
            split at g1
            · cases g1
            · rw [beqAB_ok g1]
          | succ n =>
            dsimp only at e ⊢
            split at e
            · rename_i q; rw [if_pos q]; exact ihl g2 _ _ e
            · rename_i q; rw [if_neg q]; exact ihr h _ _ e
        · cases h
      · cases h
/-- what remains of a state is that one -/
def okSt (aL : A) (sL : St) (a : A) (s : St) : Bool := match beqSVs (flat aL.tmps) (flat a.tmps) with
  | true => match beqNL aL.marks a.marks with
    | true => match Nat.beq sL.next s.next with
      | true => subT sL.heap s.heap
      | false => false
    | false => false
  | false => false
structure SubSt (sL s : St) : Prop where
  next : sL.next = s.next
  heap : ∀ n b, getT sL.heap n = some b → getT s.heap n = some b
theorem okSt_ok {aL : A} {sL : St} {a : A} {s : St} (h : okSt aL sL a s = true) : flat aL.tmps = flat a.tmps ∧ aL.marks = a.marks ∧ SubSt sL s := by
  unfold okSt at h
  split at h
  · rename_i g1
    split at h
    · rename_i g2
      split at h
      · rename_i g3; exact ⟨beqSVs_ok _ _ g1, beqNL_ok g2, Nat.eq_of_beq_eq_true g3, subT_ok h⟩
      · cases h
    · cases h
  · cases h
theorem Sim.sub {sL s : St} (h : SubSt sL s) {σ : Sg} {w : World} (k : Sim P E ν base σ s w) : Sim P E ν base σ sL w :=
  ⟨fun n hn => k.fresh n (by rw [← h.next]; exact hn), fun n b e => k.blk n b (h.heap n b e), fun n m b c bl z y e1 e2 => k.inj n m b c bl z y (h.heap _ _ e1) (h.heap _ _ e2), k.glob, k.size⟩
theorem Goes.sub {sL s : St} (h : SubSt sL s) {σ : Sg} {w : World} {σ' : Sg} {s' : St} {w' : World} (k : Goes P E ν base σ sL w σ' s' w') : Goes P E ν base σ s w σ' s' w' :=
  ⟨⟨fun n hn => k.1.same n (by rw [h.next]; exact hn), by rw [← h.next]; exact k.1.next, k.1.size, fun b hb hu => k.1.keep b hb fun n c z e => hu n c z (h.heap n c e), fun n c b z e1 e2 => by
    rcases k.1.dom n c b z e1 e2 with ⟨m, d, y, g1, g2⟩ | g
    · exact .inl ⟨m, d, y, h.heap _ _ g1, g2⟩
    · exact .inr g, k.1.os, k.1.tape, k.1.output⟩, k.2⟩
theorem Lands.sub {nt : Nat} {c : Code} {r : Option Nat} {aL a : A} {sL s : St} {e : Ex} {a' : A} {s' : St} (ht : flat aL.tmps = flat a.tmps) (hm : aL.marks = a.marks) (h : SubSt sL s) (k : Lands P E ν base nt c r aL sL e a' s') : Lands P E ν base nt c r a s e a' s' := by
  intro σ w act F n Q hs ha hF hQ
  refine k σ w act F n Q (hs.sub h) ⟨⟨ha.tmps.1, fun t ht' => by rw [ht]; exact ha.tmps.2 t ht'⟩, by rw [hm]; exact ha.defers⟩ hF fun σ' w' act' go ha' => hQ σ' w' act' (go.sub h) ha'

/-! pieces of a function's body, one after the other -/
def seqL : List Code → Code → Code
  | [], rest => rest
  | c :: l, rest => c.seq (seqL l rest)
def runCs (sf : Self) (fn : FuncId) : List Code → A → St → (A → St → R) → R
  | [], a, st, k => k a st
  | c :: l, a, st, k => sf.code fn c Option.none a st fun e a st => match e with
    | .normal => runCs sf fn l a st k
    | _ => .err "exit"
theorem runCs_ok {sf : Self} (hS : SelfOk P E ν base sf) {fn : FuncId} {F0 : Func} (hF0 : P.funcs[fn]? = some F0) : ∀ {cs : List Code} {a : A} {st : St} {k : A → St → R} {out}, runCs sf fn cs a st k = .ok out →
    ∃ a' st', k a' st' = .ok out ∧ ∀ rest e a2 st2, Lands P E ν base F0.ntmps rest Option.none a' st' e a2 st2 → Lands P E ν base F0.ntmps (seqL cs rest) Option.none a st e a2 st2 := by
  intro cs
  induction cs with
  | nil => intro a st k out h; exact ⟨a, st, h, fun rest e a2 st2 hl => hl⟩
  | cons c cs ih =>
    intro a st k out h
    simp only [runCs] at h
    have h0 := hS.code h; clear h; obtain ⟨e, a1, st1, h, F1, hF1, h1⟩ := h0
    rw [hF0] at hF1; cases hF1
    cases e <;> dsimp only at h <;> try (cases h; done)
    obtain ⟨a2, st2, h, h2⟩ := ih h
    refine ⟨a2, st2, h, fun rest e a3 st3 hl => fun σ w act F n Q hs ha hF hQ => ?_⟩
    refine wpIn_seq (h1 σ w act F n _ hs ha hF fun σ' w' act' go ha' => ?_)
    exact h2 rest e a3 st3 hl σ' w' act' F n Q go.2 ha' (hF.mono (go.le hs)) fun σ'' w'' act'' go' ha'' => hQ σ'' w'' act'' (go.trans go') ha''
end Go.Ev
namespace Go.Ev
open Go
variable {ν : Nat → Int} {P : Program} {E : Env} {base : Nat}

/-- a function whose body is known to land -/
theorem func_lands (hE : EOk P E ν) {f : FuncId} {F0 : Func} {c : Code} (hfn : getT E.fn f = some F0) (hc : F0.body = some c) {args : List SV} {tmps : List C8} (hble : args.length ≤ F0.ntmps)
    (htm : ∀ t, t < 8 * ((F0.ntmps + 7) / 8) → (flat tmps)[t]? = some (args[t]?.getD undefS)) {st : St} {e : Ex} {a1 : A} {st1 : St} (hcode : Lands P E ν base F0.ntmps c Option.none ⟨tmps, []⟩ st e a1 st1) (he : e = .normal ∨ e = .ret)
    {k : SV → St → R} {out} (h : (closeK a1.marks st1 fun st => (resultsC E F0.ntmps F0.results.toList).run a1 st fun vs => match vs with
          | [v] => k v st
          | vs => k (.tup vs) st) = .ok out) : ∃ v st', k v st' = .ok out ∧ CallLands P E ν base f args st v st' := by
  have hF0 := hE.fn f _ hfn
  obtain ⟨st2, h, hclose⟩ := closeK_ok (P := P) (E := E) (ν := ν) (base := base) h
  obtain ⟨vs, h, hres⟩ := resultsC_ok (base := base) hE h
  have hv : ∃ v, k v st2 = .ok out ∧ ∀ σ (Vs : List Value), RepL ν σ vs Vs → Rep ν σ v (if h : Vs.toArray.size = 1 then Vs.toArray[0] else .tuple Vs.toArray) := by
    split at h
    · rename_i v
      refine ⟨v, h, fun σ Vs hV => ?_⟩
      simp only [RepL] at hV
      obtain ⟨V, Us, rfl, g1, rfl⟩ := hV
      simpa using g1
    · rename_i hne
      refine ⟨_, h, fun σ Vs hV => ?_⟩
      have hl := hV.length
      have : Vs.length ≠ 1 := by
        intro e1
        rw [e1] at hl
        obtain ⟨v, rfl⟩ := List.length_eq_one_iff.1 hl.symm
        exact hne v rfl
      rw [dif_neg (by simpa using this)]
      simp only [Rep]
      exact ⟨_, rfl, by simpa using hV⟩
  obtain ⟨v, h, hvv⟩ := hv
  refine ⟨v, st2, h, hE.call f _ hfn (by rw [hc]; rfl), fun σ w Args n R hs hA hR => callsIn_of_wp_marks hF0 hc trivial ?_⟩
  refine hcode σ w _ Fence.wide n _ hs ⟨⟨?_, fun t ht => ?_⟩, [], rfl, rfl, fun i m D h => by simp at h⟩ rfl (fun σ1 w1 act1 go1 ha1 => ?_)
  · have := hA.length
    have e : args.length = Args.size := by simpa using this.symm
    rw [Array.size_append, Array.size_replicate]; show Args.size + (F0.ntmps - Args.size) = F0.ntmps
    omega
  · have hl := hA.length
    have ht : t < F0.ntmps := ht
    have hl : args.length = Args.size := by simpa using hl.symm
    by_cases g : t < Args.size
    · obtain ⟨V, e1, e2⟩ := hA.get t args[t] (by simp [hl, g])
      refine ⟨_, V, htm t (by omega), ?_, .inr (by simpa [hl, g] using e2)⟩
      rw [Array.getElem?_append_left g, ← Array.getElem?_toList]; exact e1
    · refine ⟨_, undef, htm t (by omega), ?_, by rw [List.getElem?_eq_none (by omega)]; exact .inr (undef_rep σ)⟩
      rw [Array.getElem?_append_right (by omega), Array.getElem?_replicate, if_pos]
      show t - Args.size < F0.ntmps - Args.size
      omega
  · obtain ⟨Ds, q1, q2, q3⟩ := ha1.defers
    have leave : LeavesInM Fence.wide n P F0 act1.tmps R act1.defers .returning w1 := by
      rw [q1]
      refine hclose σ1 w1 n _ act1.tmps R Ds go1.2 q2 q3 (fun w2 go2 => ?_)
      obtain ⟨Vs, r1, r2⟩ := hres σ1 w2 act1 go2.2 ha1
      exact ⟨_, results_run r1, hR σ1 w2 _ (go1.trans go2) (hvv σ1 Vs r2)⟩
    rcases he with rfl | rfl
    · exact leave
    · exact leave
end Go.Ev
namespace Go.Ev
open Go
variable {ν : Nat → Int} {P : Program} {E : Env} {base : Nat}

/-- a call whose answer from that state is known -/
def memoSelf (f : FuncId) (argsL : List SV) (sA : St) (vL : SV) (sB : St) (sf : Self) : Self where
  scope := sf.scope
  loop := sf.loop
  code := sf.code
  call g args st k := match Nat.beq f g with
    | true => match beqSVs argsL args with
      | true => match Nat.beq sA.next st.next with
        | true => match subT sA.heap st.heap with
          | true => k vL sB
          | false => sf.call g args st k
        | false => sf.call g args st k
      | false => sf.call g args st k
    | false => sf.call g args st k
theorem CallLands.sub {f : FuncId} {args : List SV} {sA st : St} {v : SV} {sB : St} (h : SubSt sA st) (k : CallLands P E ν base f args sA v sB) : CallLands P E ν base f args st v sB :=
  ⟨k.1, fun σ w Args n R hs hA hR => k.2 σ w Args n R (hs.sub h) hA fun σ' w' V go hV => hR σ' w' V (go.sub h) hV⟩
/-- of what comes behind, no more is kept than that -/
theorem Goes.less {sL s0 s : St} (h : SubSt sL s) {σ : Sg} {w : World} {σ' : Sg} {w' : World} (k : Goes P E ν base σ s0 w σ' s w') : Goes P E ν base σ s0 w σ' sL w' :=
  ⟨⟨k.1.same, by rw [h.next]; exact k.1.next, k.1.size, k.1.keep, fun n c b z e1 e2 => k.1.dom n c b z (h.heap n c e1) e2, k.1.os, k.1.tape, k.1.output⟩, k.2.sub h⟩
theorem CallLands.less {f : FuncId} {args : List SV} {st : St} {v : SV} {sL s : St} (h : SubSt sL s) (k : CallLands P E ν base f args st v s) : CallLands P E ν base f args st v sL :=
  ⟨k.1, fun σ w Args n R hs hA hR => k.2 σ w Args n R hs hA fun σ' w' V go hV => hR σ' w' V (go.less h) hV⟩
theorem memoSelf_ok {f : FuncId} {argsL : List SV} {sA : St} {vL : SV} {sB : St} {sf : Self} (hS : SelfOk P E ν base sf) (hc : CallLands P E ν base f argsL sA vL sB) : SelfOk P E ν base (memoSelf f argsL sA vL sB sf) := by
  refine ⟨fun h => ?_, fun h => hS.code h, fun h => hS.scope h, fun h => hS.loop h⟩
  dsimp only [memoSelf] at h
  split at h
  · rename_i g1
    split at h
    · rename_i g2
      split at h
      · rename_i g3
        split at h
        · rename_i g4
          have e1 := Nat.eq_of_beq_eq_true g1
          have e2 := beqSVs_ok _ _ g2
          subst e1; subst e2
          exact ⟨vL, sB, h, hc.sub ⟨Nat.eq_of_beq_eq_true g3, subT_ok g4⟩⟩
        · exact hS.call h
      · exact hS.call h
    · exact hS.call h
  · exact hS.call h
/-- the answer is that value, and what remains is that state -/
def finC (vL : SV) (sL : St) (v : SV) (s : St) : R := match beqSV vL v with
  | true => match Nat.beq sL.next s.next with
    | true => match subT sL.heap s.heap with
      | true => .ok (.bool true, sL)
      | false => .err "heap"
    | false => .err "next"
  | false => .err "value"
theorem finC_ok {vL : SV} {sL : St} {v : SV} {s : St} {out} (h : finC vL sL v s = .ok out) : vL = v ∧ SubSt sL s := by
  unfold finC at h
  split at h
  · rename_i g1
    split at h
    · rename_i g2
      split at h
      · rename_i g3; exact ⟨beqSV_ok _ _ g1, Nat.eq_of_beq_eq_true g2, subT_ok g3⟩
      · cases h
    · cases h
  · cases h
def isOkB : R → Bool
  | .ok _ => true
  | .err _ => false
theorem isOkB_ok {r : R} (h : isOkB r = true) : ∃ out, r = .ok out := by
  cases r with
  | ok a => exact ⟨a, rfl⟩
  | err s => cases h
theorem call_lands_of {sf : Self} (hS : SelfOk P E ν base sf) {f : FuncId} {args : List SV} {st : St} {vL : SV} {sL : St} (h : isOkB (sf.call f args st (finC vL sL)) = true) : CallLands P E ν base f args st vL sL := by
  obtain ⟨out, h⟩ := isOkB_ok h
  obtain ⟨v, st', h, h1⟩ := hS.call h
  obtain ⟨rfl, h2⟩ := finC_ok h
  exact h1.less h2
def fin0 (aL : A) (sL : St) (a : A) (s : St) : R := match okSt aL sL a s with
  | true => .ok (.bool true, sL)
  | false => .err "state"
theorem pieces_lands {sf : Self} (hS : SelfOk P E ν base sf) {fn : FuncId} {F0 : Func} (hF0 : P.funcs[fn]? = some F0) {cs : List Code} {a : A} {st : St} {aL : A} {sL : St} (h : isOkB (runCs sf fn cs a st (fin0 aL sL)) = true)
    {rest : Code} {e : Ex} {a2 : A} {st2 : St} (hr : Lands P E ν base F0.ntmps rest Option.none aL sL e a2 st2) : Lands P E ν base F0.ntmps (seqL cs rest) Option.none a st e a2 st2 := by
  obtain ⟨out, h⟩ := isOkB_ok h
  obtain ⟨a', st', h, h1⟩ := runCs_ok hS hF0 h
  unfold fin0 at h
  split at h
  · rename_i g
    obtain ⟨g1, g2, g3⟩ := okSt_ok g
    exact h1 rest e a2 st2 (hr.sub g1 g2 g3)
  · cases h
end Go.Ev
namespace Go.Ev
open Go
noncomputable section
variable {P : Program} {E E' : Env} {base : Nat}

/-! a state, told in other names and other numbers -/
/-- what a match is told: how names go over, and back, which numbers are the same, what the logs hold more -/
structure MC where
  ren : T Nat
  inv : T Nat
  ints : List (SInt × SInt)
  keep : Nat → Bool
  logs : List (Nat × List SV × Nat)

def beqSI (x y : SInt) : Bool := match x with
  | .lit a => match y with
    | .lit b => eqI a b
    | _ => false
  | .atom a => match y with
    | .atom b => Nat.beq a b
    | _ => false
theorem beqSI_ok {x y : SInt} (h : beqSI x y = true) : x = y := by
  unfold beqSI at h
  cases x <;> cases y <;> dsimp only at h <;> first | (cases h; done) | (rw [eqI_ok h]; done) | (rw [Nat.eq_of_beq_eq_true h]; done)
def memSI (x y : SInt) : List (SInt × SInt) → Bool
  | [] => false
  | p :: l => match p with
    | (a, b) => match beqSI x a with
      | true => match beqSI y b with
        | true => true
        | false => memSI x y l
      | false => memSI x y l
theorem memSI_ok {x y : SInt} : ∀ {l : List (SInt × SInt)}, memSI x y l = true → (x, y) ∈ l := by
  intro l
  induction l with
  | nil => intro h; cases h
  | cons p l ih =>
    intro h
    obtain ⟨a, b⟩ := p
    simp only [memSI] at h
    split at h
    · rename_i g1
      split at h
      · rename_i g2
        rw [beqSI_ok g1, beqSI_ok g2]; exact .head _
      · exact .tail _ (ih h)
    · exact .tail _ (ih h)
/-- the same number -/
def sameI (m : MC) (x y : SInt) : Bool := match x with
  | .lit a => match y with
    | .lit b => eqI a b
    | _ => memSI x y m.ints
  | .atom i => match y with
    | .atom j => match Nat.beq i j with
      | true => match m.keep i with
        | true => true
        | false => memSI x y m.ints
      | false => memSI x y m.ints
    | _ => memSI x y m.ints
def IntsOk (m : MC) (ν ν' : Nat → Int) : Prop := (∀ p ∈ m.ints, p.1.val ν = p.2.val ν') ∧ ∀ i, m.keep i = true → ν i = ν' i
/-- the events of some cells -/
def evsSV (ν : Nat → Int) : List SV → List EvT5
  | .int _ a :: .int _ b :: .int _ c :: .int _ d :: .int _ e :: l => (a.val ν, b.val ν, c.val ν, d.val ν, e.val ν) :: evsSV ν l
  | _ => []
def LogsOk (m : MC) (ν ν' : Nat → Int) : Prop := ∀ p ∈ m.logs, ν' p.2.2 = ν p.1 + (p.2.1.length / 5 : Nat) ∧ evsOf (ν' (logN p.2.2)) = evsOf (ν (logN p.1)) ++ evsSV ν p.2.1
theorem sameI_ok {m : MC} {ν ν' : Nat → Int} (hm : IntsOk m ν ν') {x y : SInt} (h : sameI m x y = true) : x.val ν = y.val ν' := by
  unfold sameI at h
  split at h
  · split at h
    · rw [eqI_ok h]; rfl
    · exact hm.1 _ (memSI_ok h)
  · split at h
    · split at h
      · rename_i g
        split at h
        · rename_i g2
          rw [← Nat.eq_of_beq_eq_true g]; exact hm.2 _ g2
        · exact hm.1 _ (memSI_ok h)
      · exact hm.1 _ (memSI_ok h)
    · exact hm.1 _ (memSI_ok h)
/-- the actual name of a canonical one -/
def sameN (m : MC) (n k : Nat) : Bool := match getT m.ren k with
  | .some j => Nat.beq n j
  | .none => false
theorem sameN_ok {m : MC} {n k : Nat} (h : sameN m n k = true) : getT m.ren k = some n := by
  unfold sameN at h
  split at h
  · rename_i g; rw [g, Nat.eq_of_beq_eq_true h]
  · cases h
def Sg.back (m : MC) (σ : Sg) : Sg := fun k => (getT m.ren k).bind σ
theorem back_at {m : MC} {n k : Nat} (h : sameN m n k = true) (σ : Sg) : σ.back m k = σ n := by
  unfold Sg.back; rw [sameN_ok h]; rfl

mutual
def sameV (m : MC) : SV → SV → Bool
  | .int k x, .int j y => match eqK2 k j with
    | true => sameI m x y
    | false => false
  | .bool a, .bool b => match a with
    | true => b
    | false => match b with
      | true => false
      | false => true
  | .abool i, .abool j => sameI m (.atom i) (.atom j)
  | .any, .any => true
  | .str a, .str b => listB a.data.toList b.data.toList
  | .nilp, .nilp => true
  | .ptr n x, .ptr k y => match sameN m n k with
    | true => Nat.beq x y
    | false => false
  | .gptr n x, .gptr k y => match Nat.beq n k with
    | true => Nat.beq x y
    | false => false
  | .slc n x l c, .slc k y l' c' => match sameN m n k with
    | true => match Nat.beq x y with
      | true => match sameI m l l' with
        | true => beqON c c'
        | false => false
      | false => false
    | false => false
  | .nils, .nils => true
  | .slc0, .slc0 => true
  | .top a x, .top b y => match sameI m (.atom a) (.atom b) with
    | true => match sameI m (.atom (a + 1)) (.atom (b + 1)) with
      | true => match sameI m (.atom (a + 2)) (.atom (b + 2)) with
        | true => match sameI m (.atom (a + 3)) (.atom (b + 3)) with
          | true => sameI m x y
          | false => false
        | false => false
      | false => false
    | false => false
  | .func (.func f) x c, .func (.func g) y d => match Nat.beq f g with
    | true => match sameVs m x y with
      | true => sameVs m c d
      | false => false
    | false => false
  | .nilf, .nilf => true
  | .map n, .map k => sameN m n k
  | .nilm, .nilm => true
  | .iface t v, .iface u w => match Nat.beq t u with
    | true => sameV m v w
    | false => false
  | .nili, .nili => true
  | .agg x, .agg y => sameVs m x y
  | .tup x, .tup y => sameVs m x y
  | _, _ => false
def sameVs (m : MC) : List SV → List SV → Bool
  | [], [] => true
  | a :: l, b :: k => match sameV m a b with
    | true => sameVs m l k
    | false => false
  | _, _ => false
end
mutual
theorem sameV_ok {m : MC} {ν ν' : Nat → Int} (hm : IntsOk m ν ν') {σ : Sg} : ∀ (a b : SV), sameV m a b = true → ∀ {V : Value}, Rep ν σ a V → Rep ν' (σ.back m) b V
  | a, b, h, V, hV => by
    unfold sameV at h
    split at h
    all_goals try (cases h; done)
    all_goals (repeat' split at h) <;> try (cases h; done)
    all_goals simp only [Rep] at hV ⊢
    all_goals first
      | (rename_i g; rw [← eqK2_ok g, ← sameI_ok hm h]; exact hV)
      | (rename_i i j; have e : ν i = ν' j := sameI_ok hm h; rw [← e]; exact hV)
      | (rw [h]; exact hV)
      | (rw [← h]; exact hV)
      | (have e := listB_ok h; rename_i x y; cases x with | mk x => cases y with | mk y => have e : x = y := Array.toList_inj.1 e; rw [← e]; exact hV)
      | (rename_i g; rw [back_at g, ← Nat.eq_of_beq_eq_true h]; exact hV)
      | (rename_i g; rw [← Nat.eq_of_beq_eq_true g, ← Nat.eq_of_beq_eq_true h]; exact hV)
      | (rename_i g1 _ g2 _ g3; rw [back_at g1, ← Nat.eq_of_beq_eq_true g2, ← sameI_ok hm g3, ← beqON_ok h]; exact hV)
      | (rename_i a _ b _ _ g1 _ g2 _ g3 _ g4; have e1 : ν a = ν' b := sameI_ok hm g1; have e2 : ν (a + 1) = ν' (b + 1) := sameI_ok hm g2; have e3 : ν (a + 2) = ν' (b + 2) := sameI_ok hm g3; have e4 : ν (a + 3) = ν' (b + 3) := sameI_ok hm g4; obtain ⟨l, rfl, e⟩ := hV; exact ⟨l, by simp only [topP, topC, e1, e2, e3, e4], by rw [← sameI_ok hm h]; exact e⟩)
      | (rename_i g1 _ g2; obtain ⟨F, C, e, k1, k2⟩ := hV; rw [← Nat.eq_of_beq_eq_true g1]; exact ⟨F, C, e, sameVs_ok hm _ _ g2 k1, sameVs_ok hm _ _ h k2⟩)
      | (rw [back_at h]; exact hV)
      | (rename_i g; obtain ⟨X, e, k⟩ := hV; rw [← Nat.eq_of_beq_eq_true g]; exact ⟨X, e, sameV_ok hm _ _ h k⟩)
      | (obtain ⟨C, e, k⟩ := hV; exact ⟨C, e, sameVs_ok hm _ _ h k⟩)
      | exact hV
      | trace_state
theorem sameVs_ok {m : MC} {ν ν' : Nat → Int} (hm : IntsOk m ν ν') {σ : Sg} : ∀ (a b : List SV), sameVs m a b = true → ∀ {L : List Value}, RepL ν σ a L → RepL ν' (σ.back m) b L
  | [], [], _, L, hL => by simp only [RepL] at hL ⊢; exact hL
  | a :: l, b :: k, h, L, hL => by
    simp only [sameVs] at h
    split at h
    · rename_i g
      simp only [RepL] at hL ⊢
      obtain ⟨V, Us, e, k1, k2⟩ := hL
      exact ⟨V, Us, e, sameV_ok hm _ _ g k1, sameVs_ok hm _ _ h k2⟩
    · cases h
  | [], _ :: _, h, _, _ => by simp [sameVs] at h
  | _ :: _, [], h, _, _ => by simp [sameVs] at h
end

def sameMEs (m : MC) (d : Nat) : List ME → List ME → Bool
  | [], [] => true
  | a :: l, b :: k => match a with
    | ⟨x, v, n⟩ => match b with
      | ⟨y, u, j⟩ => match sameV m x y with
        | true => match sameV m v u with
          | true => match Nat.beq n (j + d) with
            | true => sameMEs m d l k
            | false => false
          | false => false
        | false => false
  | _, _ => false
theorem sameMEs_ok {m : MC} {d e : Nat} {ν ν' : Nat → Int} (hm : IntsOk m ν ν') {σ : Sg} : ∀ {a b : List ME}, sameMEs m d a b = true → ∀ {L : List MapEntry}, RepM ν σ e a L → RepM ν' (σ.back m) (d + e) b L := by
  intro a
  induction a with
  | nil =>
    intro b h L hL
    cases b with
    | nil => cases hL; exact .nil
    | cons => cases h
  | cons x l ih =>
    intro b h L hL
    cases b with
    | nil => cases h
    | cons y k =>
      cases x; cases y
      simp only [sameMEs] at h
      split at h
      · rename_i g1
        split at h
        · rename_i g2
          split at h
          · rename_i g3
            cases hL with
            | cons hk hv hr =>
              rw [Nat.eq_of_beq_eq_true g3, Nat.add_assoc]
              exact .cons (sameV_ok hm _ _ g1 hk) (sameV_ok hm _ _ g2 hv) (ih h hr)
          · cases h
        · cases h
      · cases h
def memLog (a : Nat) (k : List SV) (b : Nat) : List (Nat × List SV × Nat) → Bool
  | [] => false
  | p :: l => match p with
    | (x, y, z) => match Nat.beq a x with
      | true => match Nat.beq b z with
        | true => match beqSVs k y with
          | true => true
          | false => memLog a k b l
        | false => memLog a k b l
      | false => memLog a k b l
theorem memLog_ok {a : Nat} {k : List SV} {b : Nat} : ∀ {l : List (Nat × List SV × Nat)}, memLog a k b l = true → (a, k, b) ∈ l := by
  intro l
  induction l with
  | nil => intro h; cases h
  | cons p l ih =>
    intro h
    obtain ⟨x, y, z⟩ := p
    simp only [memLog] at h
    split at h
    · rename_i g1
      split at h
      · rename_i g2
        split at h
        · rename_i g3
          rw [Nat.eq_of_beq_eq_true g1, Nat.eq_of_beq_eq_true g2, beqSVs_ok _ _ g3]; exact .head _
        · exact .tail _ (ih h)
      · exact .tail _ (ih h)
    · exact .tail _ (ih h)
/-- events, one behind the other -/
def evShape : List SV → Bool
  | [] => true
  | a :: l => match a with
    | .int .u64 _ => match l with
      | .int .i64 _ :: l => match l with
        | .int .i64 _ :: l => match l with
          | .int .i64 _ :: l => match l with
            | .int .u64 _ :: l => evShape l
            | _ => false
          | _ => false
        | _ => false
      | _ => false
    | _ => false
theorem evShape_ok {ν : Nat → Int} {σ : Sg} : ∀ (n : Nat) (l : List SV), l.length ≤ n → evShape l = true → ∀ {L : List Value}, RepL ν σ l L → L = evRow (evsSV ν l) ∧ l.length = (evsSV ν l).length * 5 := by
  intro n
  induction n with
  | zero =>
    intro l hl _ L hL
    have : l = [] := List.length_eq_zero_iff.1 (by omega)
    subst this
    simp only [RepL] at hL
    exact ⟨hL, rfl⟩
  | succ n ih =>
    intro l hl h L hL
    unfold evShape at h
    split at h
    · simp only [RepL] at hL; exact ⟨hL, rfl⟩
    · split at h
      · split at h
        · split at h
          · split at h
            · split at h
              · simp only [RepL, Rep] at hL
                obtain ⟨_, _, rfl, rfl, _, _, rfl, rfl, _, _, rfl, rfl, _, _, rfl, rfl, _, _, rfl, rfl, hL⟩ := hL
                obtain ⟨h1, h2⟩ := ih _ (by simp at hl ⊢; omega) h hL
                refine ⟨?_, ?_⟩
                · rw [h1]; rfl
                · simp only [evsSV, List.length_cons, h2]; omega
              · cases h
            · cases h
          · cases h
        · cases h
      · cases h
/-- cells, those that are not looked at left out -/
def sameDs (m : MC) : List SV → List SV → Bool
  | [], [] => true
  | a :: l, b :: k => match (match b with
      | .dead => true
      | b => sameV m a b) with
    | true => sameDs m l k
    | false => false
  | _, _ => false
theorem sameV_dead (m : MC) (b : SV) : sameV m .dead b = false := by
  unfold sameV
  rfl
theorem sameDs_ok {m : MC} : ∀ {l k : List SV}, sameDs m l k = true → l.length = k.length ∧ ∀ (j : Nat) (a b : SV), l[j]? = some a → k[j]? = some b → b = .dead ∨ sameV m a b = true := by
  intro l
  induction l with
  | nil =>
    intro k h
    cases k with
    | nil => exact ⟨rfl, fun j a b e => by simp at e⟩
    | cons => cases h
  | cons x l ih =>
    intro k h
    cases k with
    | nil => cases h
    | cons y k =>
      simp only [sameDs] at h
      split at h
      · rename_i g
        obtain ⟨h1, h2⟩ := ih h
        refine ⟨by simp [h1], fun j a b ea eb => ?_⟩
        cases j with
        | zero =>
          cases ea; cases eb
          split at g
          · exact .inl rfl
          · exact .inr g
        | succ j => exact h2 j a b ea eb
      · cases h
/-- places told by numbers -/
def sameSs (m : MC) : List (Nat × SV) → List (Nat × SV) → Bool
  | [], [] => true
  | a :: l, b :: k => match a with
    | (i, v) => match b with
      | (j, w) => match sameI m (.atom i) (.atom j) with
        | true => match sameV m v w with
          | true => match one1 w with
            | true => sameSs m l k
            | false => false
          | false => false
        | false => false
  | _, _ => false
theorem sameSs_ok {m : MC} {ν ν' : Nat → Int} (hm : IntsOk m ν ν') {σ : Sg} {off len : Nat} {C : Array Value} : ∀ {l k : List (Nat × SV)}, sameSs m l k = true → SelL ν σ off len C l →
    SelL ν' (σ.back m) off len C k ∧ (∀ p ∈ l, ∃ q ∈ k, ν' q.1 = ν p.1) ∧ ∀ q ∈ k, ∃ p ∈ l, ν' q.1 = ν p.1 := by
  intro l
  induction l with
  | nil =>
    intro k h _
    cases k with
    | nil => exact ⟨trivial, (fun p h => by cases h), (fun p h => by cases h)⟩
    | cons => cases h
  | cons x l ih =>
    intro k h hS
    cases k with
    | nil => cases h
    | cons y k =>
      obtain ⟨i, v⟩ := x
      obtain ⟨j, w⟩ := y
      simp only [sameSs] at h
      split at h
      case h_2 => cases h
      rename_i g1
      split at h
      case h_2 => cases h
      rename_i g2
      split at h
      case h_2 => cases h
      rename_i g3
      have e : ν i = ν' j := sameI_ok hm g1
      obtain ⟨a, b, c, ⟨U, d, d2⟩, f, g⟩ := hS
      obtain ⟨h1, h2, h3⟩ := ih h g
      dsimp only at a b d d2 f
      refine ⟨⟨by dsimp only; omega, by dsimp only; omega, g3, ⟨U, by dsimp only; rw [← e]; exact d, sameV_ok hm _ _ g2 d2⟩, fun q hq => ?_, h1⟩, fun p hp => ?_, fun q hq => ?_⟩
      · obtain ⟨p, p1, p2⟩ := h3 q hq
        have := f p p1
        dsimp only
        omega
      · rcases List.mem_cons.1 hp with rfl | hp
        · exact ⟨_, .head _, e.symm⟩
        · obtain ⟨q, q1, q2⟩ := h2 p hp; exact ⟨q, .tail _ q1, q2⟩
      · rcases List.mem_cons.1 hq with rfl | hq
        · exact ⟨_, .head _, e.symm⟩
        · obtain ⟨p, p1, p2⟩ := h3 q hq; exact ⟨p, .tail _ p1, p2⟩
/-- is each of the first cells such a value? -/
def allSame (m : MC) (v : SV) : Nat → List SV → Bool
  | 0, _ => true
  | n + 1, l => match l with
    | [] => false
    | b :: l => match sameV m v b with
      | true => allSame m v n l
      | false => false
theorem allSame_ok {m : MC} {v : SV} : ∀ {n : Nat} {l : List SV}, allSame m v n l = true → ∀ j b, j < n → l[j]? = some b → sameV m v b = true := by
  intro n
  induction n with
  | zero => intro l _ j b hj; omega
  | succ n ih =>
    intro l h j b hj e
    simp only [allSame] at h
    split at h
    · cases h
    · split at h
      · rename_i g
        cases j with
        | zero => cases e; exact g
        | succ j => exact ih h j b (by omega) e
      · cases h
/-- each place told by a number has what all of that part have -/
def sameAll (m : MC) (len : Nat) (y : List SV) : List (Nat × SV) → Bool
  | [] => true
  | p :: l => match p with
    | (_, v) => match allSame m v len y with
      | true => sameAll m len y l
      | false => false
theorem sameAll_ok {m : MC} {len : Nat} {y : List SV} : ∀ {l : List (Nat × SV)}, sameAll m len y l = true → ∀ p ∈ l, allSame m p.2 len y = true := by
  intro l
  induction l with
  | nil => intro _ p h; cases h
  | cons a l ih =>
    intro h p hp
    obtain ⟨i, v⟩ := a
    simp only [sameAll] at h
    split at h
    · rename_i g
      rcases List.mem_cons.1 hp with rfl | hp
      · exact g
      · exact ih h p hp
    · cases h
theorem sameVs_get {m : MC} : ∀ {x y : List SV}, sameVs m x y = true → x.length = y.length ∧ ∀ (j : Nat) a b, x[j]? = some a → y[j]? = some b → sameV m a b = true := by
  intro x
  induction x with
  | nil =>
    intro y h
    cases y with
    | nil => exact ⟨rfl, fun j a b e => by simp at e⟩
    | cons => simp [sameVs] at h
  | cons a x ih =>
    intro y h
    cases y with
    | nil => simp [sameVs] at h
    | cons b y =>
      simp only [sameVs] at h
      split at h
      · rename_i g
        obtain ⟨h1, h2⟩ := ih h
        refine ⟨by simp [h1], fun j c d e1 e2 => ?_⟩
        cases j with
        | zero => cases e1; cases e2; exact g
        | succ j => exact h2 j c d e1 e2
      · cases h
theorem RepL.of_get {ν : Nat → Int} {σ : Sg} : ∀ {y : List SV} {L : List Value}, y.length = L.length → (∀ (j : Nat) s, y[j]? = some s → ∃ U, L[j]? = some U ∧ Rep ν σ s U) → RepL ν σ y L := by
  intro y
  induction y with
  | nil => intro L h _; simp only [RepL]; exact List.length_eq_zero_iff.1 h.symm
  | cons a y ih =>
    intro L h k
    cases L with
    | nil => cases h
    | cons U L =>
      obtain ⟨V, e, r⟩ := k 0 a rfl
      cases e
      exact RepL.cons r (ih (by simpa using h) fun j s e => k (j + 1) s e)
/-- sz: how many cells an element of such a type has -/
def sameB (m : MC) (sz : TypeId → Nat) : AB → AB → Bool
  | .cells x t, .cells y u => match Nat.beq t u with
    | true => sameVs m x y
    | false => false
  | .vec x t, .vec y u => match Nat.beq t u with
    | true => sameVs m x y
    | false => false
  | .log a x t, .log b y u => match Nat.beq t u with
    | true => match y with
      | [] => match memLog a x b m.logs with
        | true => match evShape x with
          | true => Nat.beq (sz t) 5
          | false => false
        | false => false
      | _ => false
    | false => false
  | .vec x t, .log b y u => match Nat.beq t u with
    | true => match y with
      | [] => match memLog 0 x b m.logs with
        | true => match evShape x with
          | true => Nat.beq (sz t) 5
          | false => false
        | false => false
      | _ => false
    | false => false
  | .map x c e, .map y d f => match (match f with
      | true => match e with
        | true => Nat.beq c d
        | false => false
      | false => Nat.ble d c) with
    | true => sameMEs m (c - d) x y
    | false => false
  | .sel x off len l t, .sel y off' len' k u => match Nat.beq t u with
    | true => match sameR off len off' len' with
      | true => match sameSs m l k with
        | true => sameDs m x y
        | false => false
      | false => false
    | false => false
  | .sel x off len l t, .cells y u => match Nat.beq t u with
    | true => match sameAll m len (dropL y off) l with
      | true => sameVs m x y
      | false => false
    | false => false
  | .defer, .defer => true
  | _, _ => false
theorem sameB_ok {m : MC} {sz : TypeId → Nat} {ν ν' : Nat → Int} (hsz : ∀ t, sz t ≠ 0 → P.cellsOf t = sz t) (hm : IntsOk m ν ν') (hl : LogsOk m ν ν') (hz0 : ν 0 = 0 ∧ ν (logN 0) = 0) {σ : Sg} {z : Nat} {a b : AB} (h : sameB m sz a b = true) {o : Obj} (k : a.Is P ν σ z o) : b.Is P ν' (σ.back m) z o := by
  unfold sameB at h
  split at h
  · split at h
    · rename_i g
      obtain ⟨C, h1, h2⟩ := k
      rw [← Nat.eq_of_beq_eq_true g]
      exact ⟨C, h1, sameVs_ok hm _ _ h h2⟩
    · cases h
  · split at h
    · rename_i g
      obtain ⟨C, L, M, h1, h2, h3, h4⟩ := k
      rw [← Nat.eq_of_beq_eq_true g]
      exact ⟨C, L, M, h1, h2, sameVs_ok hm _ _ h h3, h4⟩
    · cases h
  · rename_i a x t b y u
    split at h
    · rename_i g
      split at h
      · split at h
        · rename_i g2
          split at h
          case h_2 => cases h
          rename_i g3
          obtain ⟨C, L, M, N, h1, h2, h3, h4, h5, h6, h8⟩ := k
          obtain ⟨e3, e4⟩ := evShape_ok _ x (Nat.le_refl _) g3 h3
          rw [← Nat.eq_of_beq_eq_true g]
          obtain ⟨e, e1⟩ := hl _ (memLog_ok g2)
          dsimp only at e e1
          have e2 := Nat.eq_of_beq_eq_true h
          have hc := hsz t (by omega)
          refine ⟨C, L ++ M, [], N, h1, by rw [h2]; simp, RepL.nil, ?_, h5, ?_, h8⟩
          · rw [e, hc, e2, List.length_append, h3.length]
            rw [hc, e2] at h4
            omega
          · unfold EvCells at h6 ⊢
            rw [e1, evRow_append, ← h6, ← e3]
        · cases h
      · cases h
    · cases h
  · rename_i x t b y u
    split at h
    · rename_i g
      split at h
      · split at h
        · rename_i g2
          split at h
          case h_2 => cases h
          rename_i g3
          obtain ⟨C, M, N, h1, h2, h3, h4, h8⟩ := k
          obtain ⟨e3, e4⟩ := evShape_ok _ x (Nat.le_refl _) g3 h3
          rw [← Nat.eq_of_beq_eq_true g]
          obtain ⟨e, e1⟩ := hl _ (memLog_ok g2)
          dsimp only at e e1
          have e2 := Nat.eq_of_beq_eq_true h
          have hc := hsz t (by omega)
          refine ⟨C, M, [], N, h1, by simpa using h2, RepL.nil, ?_, h4, ?_, h8⟩
          · rw [e, hz0.1, hc, e2, h3.length]; omega
          · unfold EvCells
            rw [e1, hz0.2, evsOf_zero, List.nil_append, ← e3]
        · cases h
      · cases h
    · cases h
  · rename_i x c e y d f
    obtain ⟨Es, i, h0, h1, h2⟩ := k
    split at h
    case h_2 => cases h
    rename_i g
    refine ⟨Es, (c - d) + i, fun hf => ?_, ?_, sameMEs_ok hm h h2⟩
    · subst hf
      dsimp only at g
      split at g
      · rename_i he
        have := h0 rfl
        have := Nat.eq_of_beq_eq_true g
        omega
      · cases g
    · rw [h1]
      congr 1
      split at g
      · split at g
        · have := Nat.eq_of_beq_eq_true g; omega
        · cases g
      · have := Nat.le_of_ble_eq_true g; omega
  · rename_i x off len l t y off' len' k' u
    split at h
    case h_2 => cases h
    rename_i g1
    split at h
    case h_2 => cases h
    rename_i g2
    split at h
    case h_2 => cases h
    rename_i g3
    obtain ⟨e1, e2⟩ := sameR_ok g2
    rw [← Nat.eq_of_beq_eq_true g1, ← e1, ← e2]
    obtain ⟨C, h1, h2, h3, h4, h5⟩ := k
    obtain ⟨d1, d2⟩ := sameDs_ok h
    obtain ⟨s1, s2, s3⟩ := sameSs_ok hm g3 h5
    refine ⟨C, h1, by omega, h3, fun a s hs => ?_, s1⟩
    have hlt : a < x.length := by rw [d1]; exact (List.getElem?_eq_some_iff.1 hs).1
    rcases d2 a x[a] s (List.getElem?_eq_getElem hlt) hs with q | q
    · exact .inl q
    · rcases h4 a x[a] (List.getElem?_eq_getElem hlt) with q2 | ⟨p, p1, p2⟩ | ⟨W, q2, q3⟩
      · rw [q2, sameV_dead] at q; cases q
      · obtain ⟨r, r1, r2⟩ := s2 p p1
        exact .inr (.inl ⟨r, r1, by rw [r2]; exact p2⟩)
      · exact .inr (.inr ⟨W, q2, sameV_ok hm _ _ q q3⟩)
  · rename_i x off len l t y u
    split at h
    case h_2 => cases h
    rename_i g1
    split at h
    case h_2 => cases h
    rename_i g2
    rw [← Nat.eq_of_beq_eq_true g1]
    obtain ⟨C, h1, h2, h3, h4, h5⟩ := k
    obtain ⟨d1, d2⟩ := sameVs_get h
    refine ⟨C, h1, RepL.of_get (by simp; omega) fun a s hs => ?_⟩
    rw [Array.getElem?_toList]
    have hlt : a < x.length := by rw [d1]; exact (List.getElem?_eq_some_iff.1 hs).1
    have q := d2 a x[a] s (List.getElem?_eq_getElem hlt) hs
    rcases h4 a x[a] (List.getElem?_eq_getElem hlt) with q2 | ⟨p, p1, p2⟩ | ⟨W, q2, q3⟩
    · rw [q2, sameV_dead] at q; cases q
    · have k1 := sameAll_ok g2 p p1
      rw [dropL_eq] at k1
      have k3 := h5.lt p p1
      have k2 := allSame_ok k1 (ν p.1).toNat s (by omega) (by rw [List.getElem?_drop, ← p2]; exact hs)
      obtain ⟨W, w1, w2⟩ := h5.mem p p1
      exact ⟨W, by rw [p2]; exact w1, sameV_ok hm _ _ k2 w2⟩
    · exact ⟨W, q2, sameV_ok hm _ _ q q3⟩
  · exact k
  · cases h

def sameT (m : MC) (sz : TypeId → Nat) (st : St) : Nat → Nat → T AB → Bool
  | _, _, .leaf => true
  | a, b, .node v l r => match (match v with
      | .none => true
      | .some y => match getT m.ren b with
        | .none => false
        | .some n => match getT m.inv n with
          | .none => false
          | .some b' => match Nat.beq b b' with
            | false => false
            | true => match getT st.heap n with
              | .none => false
              | .some x => sameB m sz x y) with
    | true => match sameT m sz st (2 * a) (a + b) l with
      | true => sameT m sz st (2 * a) (2 * a + b) r
      | false => false
    | false => false
theorem sameT_ok {m : MC} {sz : TypeId → Nat} {st : St} : ∀ {t : T AB} {a b : Nat}, sameT m sz st a b t = true → ∀ j y, getT t j = some y →
    ∃ n x, getT m.ren (a * j + b) = some n ∧ getT m.inv n = some (a * j + b) ∧ getT st.heap n = some x ∧ sameB m sz x y = true := by
  intro t
  induction t with
  | leaf => intro a b _ j y e; rw [getT_leaf] at e; cases e
  | node v l r ihl ihr =>
    intro a b h j y e
    simp only [sameT] at h
    split at h
    · rename_i g1
      split at h
      · rename_i g2
        rw [getT_node] at e
        cases j with
        | zero =>
          dsimp only at e
          subst e
          dsimp only at g1
          split at g1
          · cases g1
          · rename_i n hn
            split at g1
            · cases g1
            · rename_i b' hb'
              split at g1
              · cases g1
              · rename_i hbb
                split at g1
                · cases g1
                · rename_i x hx
                  rw [← Nat.eq_of_beq_eq_true hbb] at hb'
                  exact ⟨n, x, by simpa using hn, by simpa using hb', hx, g1⟩
        | succ k =>
          dsimp only at e
          split at e
          · rename_i q
            obtain ⟨n, x, h1, h2, h3⟩ := ihl g2 _ _ e
            have e2 : 2 * a * (k / 2) + (a + b) = a * (k + 1) + b := by
              have : k = 2 * (k / 2) := by omega
              rw [Nat.mul_add]
              conv => rhs; rw [this]
              rw [Nat.mul_comm 2 a, Nat.mul_assoc]; omega
            rw [e2] at h1 h2
            exact ⟨n, x, h1, h2, h3⟩
          · rename_i q
            obtain ⟨n, x, h1, h2, h3⟩ := ihr h _ _ e
            have e2 : 2 * a * (k / 2) + (2 * a + b) = a * (k + 1) + b := by
              have : k = 2 * (k / 2) + 1 := by omega
              rw [Nat.mul_add]
              conv => rhs; rw [this]
              rw [Nat.mul_comm 2 a, Nat.mul_assoc, Nat.mul_add]; omega
            rw [e2] at h1 h2
            exact ⟨n, x, h1, h2, h3⟩
      · cases h
    · cases h
def lowT (m : Nat) : Nat → Nat → T Nat → Bool
  | _, _, .leaf => true
  | a, b, .node v l r => match (match v with
      | .none => true
      | .some _ => Nat.blt b m) with
    | true => match lowT m (2 * a) (a + b) l with
      | true => lowT m (2 * a) (2 * a + b) r
      | false => false
    | false => false
theorem lowT_ok {m : Nat} : ∀ {t : T Nat} {a b : Nat}, lowT m a b t = true → ∀ j y, getT t j = some y → a * j + b < m := by
  intro t
  induction t with
  | leaf => intro a b _ j y e; rw [getT_leaf] at e; cases e
  | node v l r ihl ihr =>
    intro a b h j y e
    simp only [lowT] at h
    split at h
    · rename_i g1
      split at h
      · rename_i g2
        rw [getT_node] at e
        cases j with
        | zero =>
          dsimp only at e
          subst e
          have : b < m := Nat.le_of_ble_eq_true g1
          rw [Nat.mul_zero, Nat.zero_add]; exact this
        | succ k =>
          dsimp only at e
          split at e
          · rename_i q
            have h1 := ihl g2 _ _ e
            have e2 : 2 * a * (k / 2) + (a + b) = a * (k + 1) + b := by
              have : k = 2 * (k / 2) := by omega
              rw [Nat.mul_add]
              conv => rhs; rw [this]
              rw [Nat.mul_comm 2 a, Nat.mul_assoc]; omega
            rwa [e2] at h1
          · rename_i q
            have h1 := ihr h _ _ e
            have e2 : 2 * a * (k / 2) + (2 * a + b) = a * (k + 1) + b := by
              have : k = 2 * (k / 2) + 1 := by omega
              rw [Nat.mul_add]
              conv => rhs; rw [this]
              rw [Nat.mul_comm 2 a, Nat.mul_assoc, Nat.mul_add]; omega
            rwa [e2] at h1
      · cases h
    · cases h

def sameTs (m : MC) : List SV → List SV → Bool
  | [], [] => true
  | a :: l, b :: k => match liveV b with
    | false => sameTs m l k
    | true => match sameV m a b with
      | true => sameTs m l k
      | false => false
  | _, _ => false
theorem sameTs_ok {m : MC} {ν ν' : Nat → Int} (hm : IntsOk m ν ν') {σ : Sg} : ∀ {a b : List SV}, sameTs m a b = true → ∀ (t : Nat) (s : SV) (W : Value), a[t]? = some s → DRep ν σ s W → ∃ s', b[t]? = some s' ∧ DRep ν' (σ.back m) s' W := by
  intro a
  induction a with
  | nil => intro b _ t s W e; simp at e
  | cons x l ih =>
    intro b h t s W e hW
    cases b with
    | nil => cases h
    | cons y k =>
      simp only [sameTs] at h
      split at h
      · rename_i g
        cases t with
        | zero =>
          refine ⟨y, by simp, .inl ?_⟩
          cases y <;> first | rfl | cases g
        | succ t => simpa using ih h t s W (by simpa using e) hW
      · split at h
        · rename_i g
          cases t with
          | zero =>
            simp at e; subst e
            rcases hW with rfl | hW
            · cases y <;> simp [sameV] at g
            · exact ⟨y, by simp, .inr (sameV_ok hm _ _ g hW)⟩
          | succ t => simpa using ih h t s W (by simpa using e) hW
        · cases h
/-- the state and the activation, told in canonical names -/
def finM (m : MC) (sz : TypeId → Nat) (aL : A) (sL : St) (a : A) (st : St) : R := match sameTs m (flat a.tmps) (flat aL.tmps) with
  | true => match a.marks with
    | [] => match aL.marks with
      | [] => match sameT m sz st 1 0 sL.heap with
        | true => match lowT sL.next 1 0 m.ren with
          | true => .ok (.bool true, sL)
          | false => .err "match next"
        | false => .err "match heap"
      | _ => .err "match marks"
    | _ => .err "match marks"
  | false => .err "match temporaries"
theorem finM_ok {m : MC} {sz : TypeId → Nat} (hsz : ∀ t, sz t ≠ 0 → P.cellsOf t = sz t) {ν ν' : Nat → Int} (hm : IntsOk m ν ν') (hl : LogsOk m ν ν') (hz0 : ν 0 = 0 ∧ ν (logN 0) = 0) (hg : E'.glob = E.glob) (hf : GlobFree E) {aL a : A} {sL st : St} {out} (h : finM m sz aL sL a st = .ok out) :
    (∀ σ w, Sim P E ν base σ st w → Sim P E' ν' base (σ.back m) sL w) ∧ ∀ σ nt act, RepA ν σ nt a act → RepA ν' (σ.back m) nt aL act := by
  unfold finM at h
  split at h
  case h_2 => cases h
  rename_i g1
  split at h
  case h_2 => cases h
  rename_i g2
  split at h
  case h_2 => cases h
  rename_i g3
  split at h
  case h_2 => cases h
  rename_i g4
  split at h
  case h_2 => cases h
  rename_i g5
  refine ⟨fun σ w hs => ⟨fun n hn => ?_, fun n b e => ?_, fun n k b c bl z y e1 e2 s1 s2 => ?_, fun g cs e => ?_, hs.size⟩, fun σ nt act ha => ⟨⟨ha.tmps.1, fun t ht => ?_⟩, ?_⟩⟩
  · unfold Sg.back
    cases e : getT m.ren n with
    | none => rfl
    | some k => have := lowT_ok g5 n k e; omega
  · obtain ⟨k, x, h1, _, h2, h3⟩ := sameT_ok g4 n b e
    rw [Nat.one_mul, Nat.add_zero] at h1
    obtain ⟨bl, z, o, q1, q2, q3, q4⟩ := hs.blk k x h2
    exact ⟨bl, z, o, by unfold Sg.back; rw [h1]; exact q1, q2, q3, sameB_ok hsz hm hl hz0 h3 q4⟩
  · obtain ⟨n', x, h1, h1', h2, _⟩ := sameT_ok g4 n b e1
    obtain ⟨k', x', k1, k1', k2, _⟩ := sameT_ok g4 k c e2
    rw [Nat.one_mul, Nat.add_zero] at h1 h1' k1 k1'
    unfold Sg.back at s1 s2
    rw [h1] at s1; rw [k1] at s2
    have := hs.inj n' k' x x' bl z y h2 k2 s1 s2
    subst this
    rw [h1'] at k1'; exact Option.some.inj k1'
  · rw [hg] at e
    obtain ⟨h1, C, t, f, h2, h3⟩ := hs.glob g cs e
    exact ⟨h1, C, t, f, h2, freeL_ok (hf g cs e) h3⟩
  · obtain ⟨s, W, e1, e2, e3⟩ := ha.tmps.2 t ht
    obtain ⟨s', f1, f2⟩ := sameTs_ok hm g1 t s W e1 e3
    exact ⟨s', W, f1, e2, f2⟩
  · obtain ⟨Ds, d1, d2, d3⟩ := ha.defers
    rw [g2] at d2
    have : Ds = [] := List.length_eq_zero_iff.1 d2
    subst this
    exact ⟨[], d1, by rw [g3], fun i x D e1 e2 => by simp at e2⟩
/-- what stands below the base is as it was -/
structure BaseKept (base : Nat) (w w' : World) : Prop where
  size : w.heap.size ≤ w'.heap.size
  keep : ∀ b, b < base → w'.heap[b]? = w.heap[b]?
  os : w'.os = w.os
  tape : w'.tape = w.tape
  output : w'.output = w.output
theorem BaseKept.refl (w : World) : BaseKept base w w := ⟨Nat.le_refl _, fun _ _ => rfl, rfl, rfl, rfl⟩
theorem BaseKept.trans {w w' w'' : World} (h : BaseKept base w w') (k : BaseKept base w' w'') : BaseKept base w w'' :=
  ⟨Nat.le_trans h.size k.size, fun b hb => (k.keep b hb).trans (h.keep b hb), k.os.trans h.os, k.tape.trans h.tape, k.output.trans h.output⟩
theorem Goes.kept {ν : Nat → Int} {σ : Sg} {st : St} {w : World} {σ' : Sg} {st' : St} {w' : World} (h : Sim P E ν base σ st w) (k : Goes P E ν base σ st w σ' st' w') : BaseKept base w w' :=
  ⟨k.1.size, fun b hb => k.1.keep b (Nat.lt_of_lt_of_le hb h.size) fun n c z e1 e2 => by
    obtain ⟨bl, z', o, q1, q2, _⟩ := h.blk n c e1
    rw [e2] at q1; cases q1; omega, k.1.os, k.1.tape, k.1.output⟩
end
end Go.Ev
namespace Go.Ev
open Go
noncomputable section
variable {P : Program} {E E' : Env} {base : Nat}

/-! calls that touch a part of a state only -/
/-- the names below N alone -/
def Sg.below (N : Nat) (σ : Sg) : Sg := fun n => if n < N then σ n else none
mutual
def lowV (N : Nat) : SV → Bool
  | .ptr n _ => Nat.blt n N
  | .iptr n _ _ _ => Nat.blt n N
  | .slc n _ _ _ => Nat.blt n N
  | .func _ x y => match lowVs N x with
    | true => lowVs N y
    | false => false
  | .yield n => Nat.blt n N
  | .map n => Nat.blt n N
  | .iface _ v => lowV N v
  | .agg x => lowVs N x
  | .tup x => lowVs N x
  | .dead => false
  | _ => true
def lowVs (N : Nat) : List SV → Bool
  | [] => true
  | v :: l => match lowV N v with
    | true => lowVs N l
    | false => false
end
mutual
theorem lowV_ok {ν : Nat → Int} {N : Nat} {σ τ : Sg} (hs : ∀ n, n < N → σ n = τ n) : ∀ (v : SV), lowV N v = true → ∀ {V : Value}, Rep ν σ v V → Rep ν τ v V
  | .int _ _, _, V, e => by simp only [Rep] at e ⊢; exact e
  | .bool _, _, V, e => by simp only [Rep] at e ⊢; exact e
  | .abool _, _, V, e => by simp only [Rep] at e ⊢; exact e
  | .any, _, V, e => by simp only [Rep] at e ⊢; exact e
  | .str _, _, V, e => by simp only [Rep] at e ⊢; exact e
  | .nilp, _, V, e => by simp only [Rep] at e ⊢; exact e
  | .ptr n _, h, V, e => by simp only [Rep] at e ⊢; rw [← hs n (Nat.le_of_ble_eq_true h)]; exact e
  | .gptr _ _, _, V, e => by simp only [Rep] at e ⊢; exact e
  | .iptr n _ _ _, h, V, e => by simp only [Rep] at e ⊢; rw [← hs n (Nat.le_of_ble_eq_true h)]; exact e
  | .slc n _ _ _, h, V, e => by simp only [Rep] at e ⊢; rw [← hs n (Nat.le_of_ble_eq_true h)]; exact e
  | .nils, _, V, e => by simp only [Rep] at e ⊢; exact e
  | .slc0, _, V, e => by simp only [Rep] at e ⊢; exact e
  | .top _ _, _, V, e => by simp only [Rep] at e ⊢; exact e
  | .dead, h, V, e => by cases h
  | .func _ x y, h, V, e => by
    simp only [lowV] at h
    split at h
    · rename_i g
      simp only [Rep] at e ⊢
      obtain ⟨F, C, e1, e2, e3⟩ := e
      exact ⟨F, C, e1, lowVs_ok hs x g e2, lowVs_ok hs y h e3⟩
    · cases h
  | .yield n, h, V, e => by simp only [Rep] at e ⊢; rw [← hs n (Nat.le_of_ble_eq_true h)]; exact e
  | .nilf, _, V, e => by simp only [Rep] at e ⊢; exact e
  | .map n, h, V, e => by simp only [Rep] at e ⊢; rw [← hs n (Nat.le_of_ble_eq_true h)]; exact e
  | .nilm, _, V, e => by simp only [Rep] at e ⊢; exact e
  | .iface _ v, h, V, e => by
    simp only [Rep] at e ⊢
    obtain ⟨X, e1, e2⟩ := e
    exact ⟨X, e1, lowV_ok hs v h e2⟩
  | .nili, _, V, e => by simp only [Rep] at e ⊢; exact e
  | .agg x, h, V, e => by
    simp only [Rep] at e ⊢
    obtain ⟨C, e1, e2⟩ := e
    exact ⟨C, e1, lowVs_ok hs x h e2⟩
  | .tup x, h, V, e => by
    simp only [Rep] at e ⊢
    obtain ⟨C, e1, e2⟩ := e
    exact ⟨C, e1, lowVs_ok hs x h e2⟩
theorem lowVs_ok {ν : Nat → Int} {N : Nat} {σ τ : Sg} (hs : ∀ n, n < N → σ n = τ n) : ∀ (l : List SV), lowVs N l = true → ∀ {L : List Value}, RepL ν σ l L → RepL ν τ l L
  | [], _, L, e => by simp only [RepL] at e ⊢; exact e
  | v :: l, h, L, e => by
    simp only [lowVs] at h
    split at h
    · rename_i g
      simp only [RepL] at e ⊢
      obtain ⟨V, Us, e1, e2, e3⟩ := e
      exact ⟨V, Us, e1, lowV_ok hs v g e2, lowVs_ok hs l h e3⟩
    · cases h
end
/-- blocks that are cells alone, whose names are below N -/
def lowB (N : Nat) : AB → Bool
  | .cells x _ => lowVs N x
  | .vec x _ => lowVs N x
  | _ => false
theorem lowB_ok {ν : Nat → Int} {N : Nat} {σ τ : Sg} (hs : ∀ n, n < N → σ n = τ n) {b : AB} (h : lowB N b = true) {z : Nat} {o : Obj} (k : b.Is P ν σ z o) : b.Is P ν τ z o := by
  cases b <;> first | (cases h; done) | skip
  case cells cs t =>
    obtain ⟨C, h1, h2⟩ := k
    exact ⟨C, h1, lowVs_ok hs cs h h2⟩
  case vec cs t =>
    obtain ⟨C, L, M, h1, h2, h3, h4⟩ := k
    exact ⟨C, L, M, h1, h2, lowVs_ok hs cs h h3, h4⟩
/-- the part of a state that a call looks at, in the state itself -/
structure Part (N : Nat) (sL st : St) : Prop where
  next : sL.next = N
  low : ∀ n b, getT sL.heap n = some b → lowB N b = true
  names : ∀ n b, getT sL.heap n = some b → n < N
  sub : ∀ n b, getT sL.heap n = some b → getT st.heap n = some b
theorem Part.sim {ν : Nat → Int} {N : Nat} {sL st : St} (p : Part N sL st) (hg : E'.glob = E.glob) (hf : GlobFree E) {σ : Sg} {w : World} (hs : Sim P E ν base σ st w) : Sim P E' ν base (σ.below N) sL w := by
  have e : ∀ n, n < N → σ n = σ.below N n := fun n hn => by simp [Sg.below, hn]
  refine ⟨fun n hn => ?_, fun n b h => ?_, fun n m b c bl z y h1 h2 s1 s2 => ?_, fun g cs h => ?_, hs.size⟩
  · rw [p.next] at hn; simp [Sg.below, Nat.not_lt.2 hn]
  · obtain ⟨bl, z, o, q1, q2, q3, q4⟩ := hs.blk n b (p.sub n b h)
    exact ⟨bl, z, o, by rw [← e n (p.names n b h)]; exact q1, q2, q3, lowB_ok e (p.low n b h) q4⟩
  · rw [← e n (p.names n b h1)] at s1
    rw [← e m (p.names m c h2)] at s2
    exact hs.inj n m b c bl z y (p.sub _ _ h1) (p.sub _ _ h2) s1 s2
  · rw [hg] at h
    obtain ⟨h1, C, t, f, h2, h3⟩ := hs.glob g cs h
    exact ⟨h1, C, t, f, h2, freeL_ok (hf g cs h) h3⟩
/-- behind a call that leaves the part as it was -/
theorem Part.back {ν : Nat → Int} {N : Nat} {sL st s'L : St} (p : Part N sL st) (hg : E'.glob = E.glob) (hf : GlobFree E) (hsame : ∀ n b, getT sL.heap n = some b → getT s'L.heap n = some b) {σ σ' : Sg} {w w' : World} (hs : Sim P E ν base σ st w)
    (go : Goes P E' ν base (σ.below N) sL w σ' s'L w') : Goes P E ν base σ st w σ st w' := by
  have e : ∀ n, n < N → σ' n = σ n := fun n hn => by rw [go.1.same n (by rw [p.next]; exact hn)]; simp [Sg.below, hn]
  have lt : ∀ m c x y, getT st.heap m = some c → σ m = some (x, y) → x < w.heap.size := fun m c x y e1 e2 => by
    obtain ⟨bl, y', o', q1, q2, q3, q4⟩ := hs.blk m c e1
    rw [e2] at q1; cases q1
    exact (Array.getElem?_eq_some_iff.1 q3).1
  refine ⟨⟨fun _ _ => rfl, Nat.le_refl _, go.1.size, fun b hb hu => go.1.keep b hb fun n c z h1 h2 => hu n c z (p.sub n c h1) ?_, fun n c b z h1 h2 => .inl ⟨n, c, z, h1, h2⟩, go.1.os, go.1.tape, go.1.output⟩,
    hs.fresh, fun n b h => ?_, hs.inj, fun g cs h => ?_, Nat.le_trans hs.size go.1.size⟩
  · have := p.names n c h1
    simpa [Sg.below, this] using h2
  · cases hL : getT sL.heap n with
    | some b' =>
      have hb' := p.sub n b' hL
      rw [h] at hb'; cases hb'
      obtain ⟨bl, z, o, q1, q2, q3, q4⟩ := go.2.blk n b (hsame n b hL)
      exact ⟨bl, z, o, by rw [← e n (p.names n b hL)]; exact q1, q2, q3, lowB_ok e (p.low n b hL) q4⟩
    | none =>
      obtain ⟨bl, z, o, q1, q2, q3, q4⟩ := hs.blk n b h
      refine ⟨bl, z, o, q1, q2, ?_, q4⟩
      rw [go.1.keep bl (lt n b bl z h q1) fun m c y h1 h2 => ?_]
      · exact q3
      · have hm := p.names m c h1
        have h2 : σ m = some (bl, y) := by simpa [Sg.below, hm] using h2
        have := hs.inj m n c b bl y z (p.sub m c h1) h h2 q1
        subst this
        rw [h1] at hL; cases hL
  · obtain ⟨h1, C, t, f, h2, h3⟩ := go.2.glob g cs (by rw [hg]; exact h)
    exact ⟨h1, C, t, f, h2, freeL_ok (hf g cs h) h3⟩
end
end Go.Ev
