/- The tops: a verified evaluator of the program (EvC). -/
import Derived.Test.YtkfeofhifmebkaaGreatDoorEvB
import Derived.TacticsIn
import Derived.RangeFuncNested
import Derived.RangeFuncLeaves
import Derived.OrdersIn
namespace Go.Ev
open Go
variable {ν : Nat → Int} {P : Program} {E : Env} {base : Nat} {nt : Nat}

def Ex.out : Ex → Exit
  | .normal => .normal
  | .ret => .ret
  | .exit id => .exit id
  | .goto l => .goto l
/-- the fence within a round, or of none -/
def InF (σ : Sg) : Option Nat → Fence → Prop
  | none, F => F = Fence.wide
  | some l, F => ∃ b z, σ l = some (b, z) ∧ F = Fence.wide.inRound b
def OkF (F : Fence) : Prop := F = Fence.wide ∨ ∃ l, F = Fence.wide.inRound l
theorem InF.ok {σ : Sg} {r : Option Nat} {F : Fence} (h : InF σ r F) : OkF F := by
  cases r with
  | none => exact .inl h
  | some l => obtain ⟨b, z, _, h⟩ := h; exact .inr ⟨b, h⟩
theorem InF.mono {σ τ : Sg} (hle : σ.le τ) {r : Option Nat} {F : Fence} (h : InF σ r F) : InF τ r F := by
  cases r with
  | none => exact h
  | some l => obtain ⟨b, z, h1, h⟩ := h; exact ⟨b, z, hle _ _ h1, h⟩
theorem OkF.fn {F : Fence} (h : OkF F) (f : FuncId) : F.fn f := by
  rcases h with rfl | ⟨l, rfl⟩ <;> trivial
theorem OkF.depth {F : Fence} (h : OkF F) : F.depth = none := by
  rcases h with rfl | ⟨l, rfl⟩ <;> rfl
theorem OkF.calls {F : Fence} (h : OkF F) {n : Nat} {f : FuncId} {args : Array Value} {w : World} {R : Ending → World → Prop} (k : CallsIn Fence.wide n P f args w R) : CallsIn F n P f args w R := by
  rcases h with rfl | ⟨l, rfl⟩
  · exact k
  · exact k
theorem OkF.round {F : Fence} (h : OkF F) {n l : Nat} {f : FuncId} {tmps : Array Value} {as bd : Code} {w : World} {R : Ending → World → Prop} (k : RoundIn Fence.wide n P l f tmps as bd w R) : RoundIn F n P l f tmps as bd w R := by
  rcases h with rfl | ⟨l, rfl⟩
  · exact k
  · exact k

def CallLands (P : Program) (E : Env) (ν : Nat → Int) (base : Nat) (f : FuncId) (args : List SV) (st : St) (v : SV) (st' : St) : Prop :=
  (∀ Args w, (callFunc f Args).run P w = .ok (.enter f Args) w) ∧
  ∀ σ w (Args : Array Value) n (R : Ending → World → Prop), Sim P E ν base σ st w → RepL ν σ args Args.toList →
    (∀ σ' w' V, Goes P E ν base σ st w σ' st' w' → Rep ν σ' v V → R (.returned V) w') → CallsIn Fence.wide n P f Args w R
def YLands (P : Program) (E : Env) (ν : Nat → Int) (base : Nat) (l : Nat) (args : List SV) (st : St) (v : SV) (st' : St) : Prop :=
  ∀ σ w (Args : Array Value) n b z (R : Ending → World → Prop), Sim P E ν base σ st w → RepL ν σ args Args.toList → σ l = some (b, z) →
    (∀ σ' w' V, Goes P E ν base σ st w σ' st' w' → Rep ν σ' v V → R (.returned V) w') →
    ∃ f tmps as bd, (Instr.yield b Args).run P w = .ok (.round b f tmps as bd) w ∧ RoundIn Fence.wide n P b f tmps as bd w R
def Lands (P : Program) (E : Env) (ν : Nat → Int) (base nt : Nat) (c : Code) (r : Option Nat) (a : A) (st : St) (e : Ex) (a' : A) (st' : St) : Prop :=
  ∀ σ w act F n (Q : Exit → Act → World → Prop), Sim P E ν base σ st w → RepA ν σ nt a act → InF σ r F →
    (∀ σ' w' act', Goes P E ν base σ st w σ' st' w' → RepA ν σ' nt a' act' → Q e.out act' w') → c.wpIn F n P Q act w
/-- a scope's rest, in the scope -/
def ScopeWp (F : Fence) (n : Nat) (P : Program) (cur b : Code) (Q : Exit → Act → World → Prop) (a : Act) (w : World) : Prop :=
  ∀ (fr : Frame) (k : List Item) (cs : List Frame), fr.roundOf = F.round → F.fn fr.fn → F.room (cs.length + 1 + n) →
    ∃ e a' w', Q e a' w' ∧ ArrivesIn (Machine.fenced P F) P (lone (fr.atR a (.code cur :: .inScope b :: k)) cs w) fr k cs e a' w'
def SLands (P : Program) (E : Env) (ν : Nat → Int) (base nt : Nat) (cur b : Code) (r : Option Nat) (a : A) (st : St) (e : Ex) (a' : A) (st' : St) : Prop :=
  ∀ σ w act F n (Q : Exit → Act → World → Prop), Sim P E ν base σ st w → RepA ν σ nt a act → InF σ r F →
    (∀ σ' w' act', Goes P E ν base σ st w σ' st' w' → RepA ν σ' nt a' act' → Q e.out act' w') → ScopeWp F n P cur b Q act w

/-- a loop's body, in the loop -/
def LoopWp (F : Fence) (n : Nat) (P : Program) (c : Code) (Q : Exit → Act → World → Prop) (a : Act) (w : World) : Prop :=
  ∀ (fr : Frame) (k : List Item) (cs : List Frame), fr.roundOf = F.round → F.fn fr.fn → F.room (cs.length + 1 + n) →
    ∃ e a' w', Q e a' w' ∧ ArrivesIn (Machine.fenced P F) P (lone (fr.atR a (.code c :: .inLoop c :: k)) cs w) fr k cs e a' w'
def LLands (P : Program) (E : Env) (ν : Nat → Int) (base nt : Nat) (c : Code) (r : Option Nat) (a : A) (st : St) (e : Ex) (a' : A) (st' : St) : Prop :=
  ∀ σ w act F n (Q : Exit → Act → World → Prop), Sim P E ν base σ st w → RepA ν σ nt a act → InF σ r F →
    (∀ σ' w' act', Goes P E ν base σ st w σ' st' w' → RepA ν σ' nt a' act' → Q e.out act' w') → LoopWp F n P c Q act w

structure SelfOk (P : Program) (E : Env) (ν : Nat → Int) (base : Nat) (sf : Self) : Prop where
  call : ∀ {f args st k out}, sf.call f args st k = .ok out → ∃ v st', k v st' = .ok out ∧ CallLands P E ν base f args st v st'
  code : ∀ {fn c r a st k out}, sf.code fn c r a st k = .ok out → ∃ e a' st', k e a' st' = .ok out ∧ ∃ F0, P.funcs[fn]? = some F0 ∧ Lands P E ν base F0.ntmps c r a st e a' st'
  scope : ∀ {fn cur b r a st k out}, sf.scope fn cur b r a st k = .ok out → ∃ e a' st', k e a' st' = .ok out ∧ ∃ F0, P.funcs[fn]? = some F0 ∧ SLands P E ν base F0.ntmps cur b r a st e a' st'
  loop : ∀ {fn c r a st k out}, sf.loop fn c r a st k = .ok out → ∃ e a' st', k e a' st' = .ok out ∧ ∃ F0, P.funcs[fn]? = some F0 ∧ LLands P E ν base F0.ntmps c r a st e a' st'
def IntrOk (P : Program) (E : Env) (ν : Nat → Int) (base : Nat) : Prop :=
  ∀ g x, E.intr g = some x → ∀ {args st k fb out}, x.run args st k fb = .ok out → (∃ v st', k v st' = .ok out ∧ CallLands P E ν base g args st v st') ∨ fb () = .ok out

theorem callC_ok (hI : IntrOk P E ν base) {self : Self} (hS : SelfOk P E ν base self) {g : FuncId} {args : List SV} {st : St} {k : SV → St → R} {out} (h : (callC E g).run self args st k = .ok out) :
    ∃ v st', k v st' = .ok out ∧ CallLands P E ν base g args st v st' := by
  unfold callC at h
  split at h
  · rename_i x hx
    rcases hI g x hx h with h | h
    · exact h
    · exact hS.call h
  · exact hS.call h

/-! ### yield -/
theorem setAll_ok {l : List Tmp} : ∀ {args : List SV} {tmps : List C8} {k : List C8 → R} {out}, setAll l args tmps k = .ok out →
    ∃ tmps', k tmps' = .ok out ∧ l.length = args.length ∧ ∀ σ N V Args, RepT ν σ N tmps V → RepL ν σ args Args → RepT ν σ N tmps' ((l.zip Args).foldl (fun t p => t.setIfInBounds p.1 p.2) V) := by
  induction l with
  | nil =>
    intro args tmps k out h
    cases args with
    | nil => exact ⟨tmps, h, rfl, fun σ N V Args hV hA => by simpa using hV⟩
    | cons _ _ => cases h
  | cons t l ih =>
    intro args tmps k out h
    cases args with
    | nil => cases h
    | cons v args =>
      simp only [setAll] at h
      obtain ⟨ts, h1, h2⟩ := tmpG_set h
      obtain ⟨ts', h3, h4, h5⟩ := ih h2
      refine ⟨ts', h3, by simp [h4], fun σ N V Args hV hA => ?_⟩
      simp only [RepL] at hA
      obtain ⟨W, Us, rfl, g1, g2⟩ := hA
      exact h5 σ N _ Us (hV.set h1 g1) g2

theorem round_out {σ : Sg} {st : St} {w : World} (hs : Sim P E ν base σ st w) {l : Nat} {s : LoopState} {p : Option Code} {fn : FuncId} {tmps : List C8} {ps : List Tmp} {as bd : Code} {d : Nat}
    (hb : getT st.heap l = some (.loop s p fn tmps ps as bd d)) {b z : Nat} (hl : σ l = some (b, z)) :
    ∃ V D y fn', w.heap[b]? = some (.loop ⟨s, p, fn', V, ps.toArray, as, bd, D⟩) ∧ σ d = some (D, y) ∧ ∃ F, P.funcs[fn]? = some F ∧ RepT ν σ F.ntmps tmps V ∧ ∀ t ∈ ps, t < F.ntmps := by
  obtain ⟨b', z', o, h1, h2, h3, h4⟩ := hs.blk l _ hb
  rw [hl] at h1; cases h1
  obtain ⟨V, D, y, fn', rfl, h5⟩ := h4
  exact ⟨V, D, y, fn', h3, h5⟩

theorem yieldK_ok {self : Self} (hS : SelfOk P E ν base self) {l : Nat} {args : List SV} {st : St} {k : SV → St → R} {out} (h : yieldK self l args st k = .ok out) :
    ∃ v st', k v st' = .ok out ∧ YLands P E ν base l args st v st' := by
  unfold yieldK at h
  have h0 := blockK_ok h; clear h; obtain ⟨b0, hb0, h⟩ := h0
  cases b0 <;> (try dsimp only at h) <;> try (cases h; done)
  rename_i s0 p0 fn tmps params assign body d0
  have h0 := setAll_ok (ν := ν) h; clear h; obtain ⟨tmps', h, hlen, htm⟩ := h0
  have h0 := hS.code h; clear h; obtain ⟨e1, a1, st1, h, F0, hF0, hcode1⟩ := h0
  cases e1 <;> (try dsimp only at h) <;> try (cases h; done)
  have h0 := blockK_ok h; clear h; obtain ⟨b1, hb1, h⟩ := h0
  cases b1 <;> (try dsimp only at h) <;> try (cases h; done)
  rename_i s1 p1 fn1 tmps1 params1 assign1 body1 d1
  cases s1 <;> (try dsimp only at h) <;> try (cases h; done)
  have h0 := setK_goes (P := P) (E := E) (ν := ν) (base := base) h; clear h; obtain ⟨st2, h, hset1⟩ := h0
  have h0 := hS.code h; clear h; obtain ⟨e2, a2, st3, h, F0', hF0', hcode2⟩ := h0
  rw [hF0] at hF0'; cases hF0'
  have h0 := blockK_ok h; clear h; obtain ⟨b3, hb3, h⟩ := h0
  cases b3 <;> (try dsimp only at h) <;> try (cases h; done)
  rename_i s3 p3 fn3 tmps3 params3 assign3 body3 d3
  have fin : ∀ (j : Option Code) (s : LoopState) (bb : Bool), (∀ r : Loop, ({ r with state := if j.isNone then .ready else .done, pending := j } : Loop) = { r with state := s, pending := j }) → j.isNone = bb →
      (∀ (P : Program) (b : Nat) (R : Ending → World → Prop) (act : Act) (w : World), (∃ v w', (Instr.endRound b j).run P w = .ok v w' ∧ R (.returned v) w') → roundPost P b R e2.out act w) →
      setK st3 l (some (.loop s j fn3 tmps3 params3 assign3 body3 d3)) (fun st => k (.bool bb) st) = .ok out → ∃ v st', k v st' = .ok out ∧ YLands P E ν base l args st v st' := by
    intro j s bb hj hbb hpost hk
    obtain ⟨st4, hk, hset3⟩ := setK_goes (P := P) (E := E) (ν := ν) (base := base) hk
    refine ⟨_, st4, hk, fun σ w Args n b z R hs hA hl hR => ?_⟩
    obtain ⟨V, D, y, fn', g1, g2, F, g3, g4, g5⟩ := round_out hs hb0 hl
    rw [hF0] at g3; cases g3
    have hsz : Args.size = params.toArray.size := by
      have := hA.length
      simp at this ⊢; omega
    refine ⟨_, _, _, _, run_yield g1 hsz, ?_⟩
    refine roundIn_of_wpIn trivial ?_
    have htm' := htm σ F0.ntmps V Args.toList g4 hA
    have htm2 : RepT ν σ F0.ntmps tmps' ((params.toArray.zip Args).foldl (fun tmps (t, a) => tmps.setIfInBounds t a) V) := by
      have e : (params.toArray.zip Args).foldl (fun tmps (t, a) => tmps.setIfInBounds t a) V = (params.zip Args.toList).foldl (fun t p => t.setIfInBounds p.1 p.2) V := by
        rw [← Array.foldl_toList, Array.toList_zip]
      rw [e]; exact htm'
    refine hcode1 σ w _ (Fence.wide.inRound b) n _ hs ⟨htm2, [], rfl, rfl, fun i m D h => by simp at h⟩ ⟨b, z, hl, rfl⟩ (fun σ1 w1 act1 go1 ha1 => ?_)
    have hl1 : σ1 l = some (b, z) := go1.le hs _ _ hl
    obtain ⟨V1, D1, y1, fn1', k1, k2, F1, k3, k4, k5⟩ := round_out go1.2 hb1 hl1
    have go2 := hset1 σ1 w1 _ (.loop ⟨.busy, p1, fn1', V1, params1.toArray, assign1, body1, D1⟩) b z go1.2 hb1 hl1 (fun c e => by cases e; exact ⟨V1, D1, y1, fn1', rfl, k2, F1, k3, k4, k5⟩)
    refine ⟨_, run_beginRound k1 rfl, ?_⟩
    refine hcode2 σ1 _ act1 (Fence.wide.inRound b) n _ go2.2 ha1 ⟨b, z, hl1, rfl⟩ (fun σ3 w3 act3 go3 ha3 => ?_)
    have hl3 : σ3 l = some (b, z) := go3.le go2.2 _ _ hl1
    obtain ⟨V3, D3, y3, fn3', m1, m2, F3, m3, m4, m5⟩ := round_out go3.2 hb3 hl3
    have go4 := hset3 σ3 w3 _ (.loop ⟨s, j, fn3', V3, params3.toArray, assign3, body3, D3⟩) b z go3.2 hb3 hl3 (fun c e => by cases e; exact ⟨V3, D3, y3, fn3', rfl, m2, F3, m3, m4, m5⟩)
    apply hpost
    refine ⟨_, _, run_endRound j m1, ?_⟩
    rw [hj, hbb]
    exact hR σ3 _ (.bool bb) (((go1.trans go2).trans go3).trans go4) (by simp only [Rep])
  cases e2 <;> dsimp only at h
  case normal => exact fin none .ready true (fun _ => rfl) rfl (fun _ _ _ _ _ h => h) h
  case ret => exact fin (some .ret) .done false (fun _ => rfl) rfl (fun _ _ _ _ _ h => h) h
  case exit id => exact fin (some (.exit id)) .done false (fun _ => rfl) rfl (fun _ _ _ _ _ h => h) h
  case goto id => exact fin (some (.goto id)) .done false (fun _ => rfl) rfl (fun _ _ _ _ _ h => h) h
end Go.Ev
namespace Go.Ev
open Go
variable {ν : Nat → Int} {P : Program} {E : Env} {base : Nat} {nt : Nat}

def XLands (P : Program) (E : Env) (ν : Nat → Int) (base nt : Nat) (op : Op) (a : A) (st : St) (v : SV) (st' : St) : Prop :=
  ∀ σ w act (o : Oper) F n (K : Act → World → Prop) (Q : Exit → Act → World → Prop), o.op = op → Sim P E ν base σ st w → RepA ν σ nt a act → OkF F →
    (∀ σ' w' V, Goes P E ν base σ st w σ' st' w' → Rep ν σ' v V → K (act.put o.dst V) w') → o.wpIn F n P act w K Q

theorem XRun.lands {op : Op} (hd : ∀ c, op ≠ .defer c) {a : A} {st : St} {v : SV} {st' : St} (h : XRun P E ν base nt op a st v st') : XLands P E ν base nt op a st v st' := by
  intro σ w act o F n K Q ho hs ha hF hK
  obtain ⟨V, w', σ', h1, h2, h3⟩ := h σ w act o ho hs ha
  refine ⟨fun f _ => hF.fn f, ?_⟩
  rw [Oper.semAt_eq _ _ _ (by rw [ho]; exact hd)]
  rcases h1 with h1 | ⟨h1, rfl⟩
  · rw [h1]; exact hK σ' w' V h3 h2
  · rw [h1]; exact hK σ' w' _ h3 h2

theorem call_lands {c : Call} {f : Operand} (hc : c.callee = .value f) {a : A} {st : St} {v : SV} {st' : St} {g : FuncId} {args : List SV} (h : CallLands P E ν base g args st v st')
    (hr : ∀ σ act, RepA ν σ nt a act → ∃ (F C : Array Value), act.eval f = .func (.func g) F C ∧ RepL ν σ args (F.toList ++ ((c.args.map act.eval).toList ++ C.toList))) : XLands P E ν base nt (.call c) a st v st' := by
  intro σ w act o F n K Q ho hs ha hF hK
  obtain ⟨Fs, C, e1, e2⟩ := hr σ act ha
  refine ⟨fun f _ => hF.fn f, ?_⟩
  rw [Oper.semAt_eq _ _ _ (by rw [ho]; intro c e; cases e)]
  have e : (execOp act.eval o).run P w = .ok (.enter g (Fs ++ c.args.map act.eval ++ C)) w := by
    simp [execOp, ho, resolve, hc, e1, Deferred.ofValue, invoke, h.1]
  rw [e, Oper.uponIn_enter]
  refine ⟨(fun hd => by rw [hF.depth] at hd; cases hd), hF.calls ?_⟩
  refine h.2 σ w _ (n - 1) _ hs (by simpa using e2) (fun σ' w' V go hv => hK σ' w' V go hv)

theorem yield_lands {c : Call} {f : Operand} (hc : c.callee = .value f) {a : A} {st : St} {v : SV} {st' : St} {l : Nat} {args : List SV} (h : YLands P E ν base l args st v st')
    (hr : ∀ σ act, RepA ν σ nt a act → Rep ν σ (.yield l) (act.eval f) ∧ RepL ν σ args (c.args.map act.eval).toList) : XLands P E ν base nt (.call c) a st v st' := by
  intro σ w act o F n K Q ho hs ha hF hK
  obtain ⟨e1, e2⟩ := hr σ act ha
  simp only [Rep] at e1
  obtain ⟨b, z, hl, e1⟩ := e1
  refine ⟨fun f _ => hF.fn f, ?_⟩
  rw [Oper.semAt_eq _ _ _ (by rw [ho]; intro c e; cases e)]
  obtain ⟨f', tmps, as, bd, r1, r2⟩ := h σ w (c.args.map act.eval) (n - 1) b z (fun | .returned v, w'' => K (act.put o.dst v) w'' | .panicked chain, w'' => Q (.panic chain) act w'' | .outgrown, _ => LetsOut Q) hs e2 hl (fun σ' w' V go hv => hK σ' w' V go hv)
  have e : (execOp act.eval o).run P w = .ok (.round b f' tmps as bd) w := by
    simp [execOp, ho, resolve, hc, e1, Deferred.ofValue, invoke, r1]
  rw [e, Oper.uponIn_round]
  exact ⟨(fun hd => by rw [hF.depth] at hd; cases hd), hF.round r2⟩

theorem invokeK_ok (hI : IntrOk P E ν base) {self : Self} (hS : SelfOk P E ν base self) {c : Call} {f : Operand} (hc : c.callee = .value f) {a : A} {fv : SV} {args : List SV} {st : St} {k : SV → St → R} {out}
    (hf : ∀ σ act, RepA ν σ nt a act → Rep ν σ fv (act.eval f)) (ha : ∀ σ act, RepA ν σ nt a act → RepL ν σ args (c.args.map act.eval).toList) (h : invokeK E self fv args st k = .ok out) :
    ∃ v st', k v st' = .ok out ∧ XLands P E ν base nt (.call c) a st v st' := by
  unfold invokeK at h
  split at h
  · rename_i g first captured
    rw [appLK_eq, appLK_eq] at h
    obtain ⟨v, st', h, h1⟩ := callC_ok hI hS h
    refine ⟨v, st', h, call_lands hc h1 fun σ act hh => ?_⟩
    have := hf σ act hh
    simp only [Rep] at this
    obtain ⟨F, C, e, g1, g2⟩ := this
    exact ⟨F, C, e, g1.append ((ha σ act hh).append g2)⟩
  · rename_i l
    obtain ⟨v, st', h, h1⟩ := yieldK_ok hS h
    exact ⟨v, st', h, yield_lands hc h1 fun σ act hh => ⟨hf σ act hh, ha σ act hh⟩⟩
  · cases h

theorem execC_lands (hE : EOk P E ν) (hI : IntrOk P E ν base) {op : Op} {self : Self} (hS : SelfOk P E ν base self) {a : A} {st : St} {k : SV → St → R} {out} (h : (execC E nt op).run self a st k = .ok out) :
    ∃ v st', k v st' = .ok out ∧ XLands P E ν base nt op a st v st' := by
  by_cases hst : still op
  · obtain ⟨v, st', h1, h2⟩ := execC_run (base := base) hE hst h
    exact ⟨v, st', h1, h2.lands (fun c e => by subst e; cases h)⟩
  · have : ∃ c, op = .call c ∧ ∀ b, c.callee ≠ .builtin b := by
      by_cases g : ∃ c, op = .call c ∧ ∀ b, c.callee ≠ .builtin b
      · exact g
      · exact absurd (fun c e => by
          by_cases q : ∃ b, c.callee = .builtin b
          · exact q
          · exact absurd ⟨c, e, fun b eb => q ⟨b, eb⟩⟩ g) hst
    obtain ⟨c, rfl, hc⟩ := this
    dsimp only [execC] at h
    split at h
    · rename_i b hb; exact absurd hb (hc b)
    · rename_i f hf
      dsimp only at h
      have h0 := opsC_ok (ν := ν) h; clear h; obtain ⟨args, h, h1⟩ := h0
      obtain ⟨v, st', h, h2⟩ := callC_ok hI hS h
      refine ⟨v, st', h, call_lands hf h2 fun σ act hh => ⟨#[], #[], rfl, ?_⟩⟩
      simpa using h1 σ act hh
    · rename_i f _ hf
      dsimp only at h
      have h0 := opsC_ok (ν := ν) h; clear h; obtain ⟨args, h, h1⟩ := h0
      have h0 := opC_ok (ν := ν) h; clear h; obtain ⟨fv, h, h2⟩ := h0
      exact invokeK_ok hI hS hf h2 (fun σ act hh => by simpa using h1 σ act hh) h
    · cases h

/-! regions -/
theorem rep_bool {σ : Sg} {v : SV} {b : Bool} (hne : ∀ i, v ≠ .abool i) (hna : v ≠ .any) (h : Rep ν σ v (.bool b)) : v = .bool b := by
  cases v <;> simp only [Rep] at h
  case bool c => cases h; rfl
  case abool i => exact absurd rfl (hne i)
  case any => exact absurd rfl hna
  all_goals first | (cases h; done) | (obtain ⟨_, _, _, h, _⟩ := h; cases h; done) | (obtain ⟨_, _, _, h⟩ := h; cases h; done) | (obtain ⟨_, _, h, _⟩ := h; cases h; done) | (obtain ⟨_, _, h⟩ := h; cases h; done) | (obtain ⟨_, h, _⟩ := h; cases h; done) | (obtain ⟨_, _, _, _, _, h⟩ := h; cases h; done) | (obtain ⟨_, _, _, _, _, h, _⟩ := h; cases h; done)

theorem wantC_ok {all : List Oper} {g : Nat × Bool} {a : A} {k : Bool → R} {out} (h : (wantC nt all g).run a k = .ok out) :
    ∃ b, k b = .ok out ∧ ∀ σ act, RepA ν σ nt a act → (yielded all.toArray act.tmps g.1 == some g.2) = b := by
  obtain ⟨j, want⟩ := g
  unfold wantC at h
  dsimp only at h
  split at h
  · rename_i o ho
    rw [getL_eq] at ho
    split at h
    · rename_i d _ _ _ _ _
      have key : ∀ σ act, RepA ν σ nt a act → ∀ v, (∀ i, v ≠ .abool i) → v ≠ .any → Rep ν σ v (act.eval (.tmp d)) → ∀ b, yielded all.toArray act.tmps j = some b → v = .bool b := by
        intro σ act ha v hne hna hv b hy
        simp only [yielded, List.getElem?_toArray, ho, Option.bind_some] at hy
        split at hy
        · rename_i b' hb'
          cases hy
          have : act.eval (.tmp d) = .bool b := by
            simp only [Act.eval, Array.getD_eq_getD_getElem?, hb']; rfl
          rw [this] at hv
          exact rep_bool hne hna hv
        · cases hy
      have back : ∀ σ act, RepA ν σ nt a act → ∀ b, Rep ν σ (.bool b) (act.eval (.tmp d)) → yielded all.toArray act.tmps j = some b := by
        intro σ act ha b hv
        simp only [Rep] at hv
        simp only [yielded, List.getElem?_toArray, ho, Option.bind_some]
        have : act.tmps[d]? = some (.bool b) := by
          simp only [Act.eval, Array.getD_eq_getD_getElem?] at hv
          cases hq : act.tmps[d]? with
          | none => rw [hq] at hv; simp [undef] at hv
          | some u => rw [hq] at hv; simp at hv; rw [hv]
        rw [this]
      split at h
      · obtain ⟨v, h, h1⟩ := opC_ok (ν := ν) h
        split at h
        · exact ⟨true, h, fun σ act ha => by rw [back σ act ha true (h1 σ act ha)]; rfl⟩
        · cases h
        · cases h
        · rename_i hne hna hny
          refine ⟨false, h, fun σ act ha => ?_⟩
          have := key σ act ha v (fun i e => hna i e) (fun e => hny e) (h1 σ act ha) true
          by_cases hy : yielded all.toArray act.tmps j = some true
          · exact absurd (this hy) hne
          · simpa using hy
      · obtain ⟨v, h, h1⟩ := opC_ok (ν := ν) h
        split at h
        · exact ⟨true, h, fun σ act ha => by rw [back σ act ha false (h1 σ act ha)]; rfl⟩
        · cases h
        · cases h
        · rename_i hne hna hny
          refine ⟨false, h, fun σ act ha => ?_⟩
          have := key σ act ha v (fun i e => hna i e) (fun e => hny e) (h1 σ act ha) false
          by_cases hy : yielded all.toArray act.tmps j = some false
          · exact absurd (this hy) hne
          · simpa using hy
    · rename_i hne
      refine ⟨false, h, fun σ act ha => ?_⟩
      have : o.dst = none := by
        cases o with | mk dst x1 x2 x3 x4 x5 =>
        cases dst with
        | none => rfl
        | some d => exact (hne d x1 x2 x3 x4 x5 rfl).elim
      simp [yielded, ho, this]
  · rename_i ho
    rw [getL_eq] at ho
    exact ⟨false, h, fun σ act ha => by simp [yielded, ho]⟩

theorem regC_ok (hE : EOk P E ν) (hI : IntrOk P E ν base) {self : Self} (hS : SelfOk P E ν base self) {all : List Oper} : ∀ (rest : List Oper) {a : A} {st : St} {k : A → St → R} {out}, (regC E nt all rest).run self a st k = .ok out →
    ∃ a' st', k a' st' = .ok out ∧ ∀ σ w act F n (Q : Exit → Act → World → Prop), Sim P E ν base σ st w → RepA ν σ nt a act → OkF F →
      (∀ σ' w' act', Goes P E ν base σ st w σ' st' w' → RepA ν σ' nt a' act' → Q .normal act' w') → wpListIn F n P all.toArray Q rest act w := by
  intro rest
  induction rest with
  | nil =>
    intro a st k out h
    exact ⟨a, st, h, fun σ w act F n Q hs ha hF hQ => hQ σ w act (.refl hs) ha⟩
  | cons o rest ih =>
    intro a st k out h
    cases o with | mk dst op f3 f4 f5 guard =>
    simp only [regC] at h
    have run : ∀ {kk : A → St → R}, ((execC E nt op).run self a st fun v st => (putS nt dst).run a v fun a => (regC E nt all rest).run self a st kk) = .ok out →
        ∃ a' st', kk a' st' = .ok out ∧ ∀ σ w act F n (Q : Exit → Act → World → Prop), Sim P E ν base σ st w → RepA ν σ nt a act → OkF F →
          (∀ σ' w' act', Goes P E ν base σ st w σ' st' w' → RepA ν σ' nt a' act' → Q .normal act' w') → (⟨dst, op, f3, f4, f5, guard⟩ : Oper).wpIn F n P act w (wpListIn F n P all.toArray Q rest) Q := by
      intro kk h
      obtain ⟨v, st1, h, h1⟩ := execC_lands hE hI hS h
      obtain ⟨a1, h, h2⟩ := putS_ok (ν := ν) h
      obtain ⟨a2, st2, h, h3⟩ := ih h
      refine ⟨a2, st2, h, fun σ w act F n Q hs ha hF hQ => h1 σ w act _ F n _ Q rfl hs ha hF (fun σ' w' V go hv => ?_)⟩
      refine h3 σ' w' _ F n Q go.2 (h2 σ' act V (ha.mono (go.le hs)) hv) hF (fun σ'' w'' act'' go' ha' => hQ σ'' w'' act'' (go.trans go') ha')
    cases guard with
    | none =>
      dsimp only at h
      obtain ⟨a', st', h, h1⟩ := run h
      refine ⟨a', st', h, fun σ w act F n Q hs ha hF hQ => ?_⟩
      simp only [wpListIn, Region.wanted, if_true]
      exact h1 σ w act F n Q hs ha hF hQ
    | some g =>
      dsimp only at h
      obtain ⟨b, h, hb⟩ := wantC_ok (ν := ν) h
      cases b with
      | true =>
        dsimp only at h
        obtain ⟨a', st', h, h1⟩ := run h
        refine ⟨a', st', h, fun σ w act F n Q hs ha hF hQ => ?_⟩
        have hw : Region.wanted (⟨dst, op, f3, f4, f5, some g⟩ : Oper) (yielded all.toArray act.tmps) = true := hb σ act ha
        simp only [wpListIn, hw, if_true]
        exact h1 σ w act F n Q hs ha hF hQ
      | false =>
        dsimp only at h
        obtain ⟨a1, h, h2⟩ := putS_ok (ν := ν) h
        obtain ⟨a2, st2, h, h3⟩ := ih h
        refine ⟨a2, st2, h, fun σ w act F n Q hs ha hF hQ => ?_⟩
        have hw : Region.wanted (⟨dst, op, f3, f4, f5, some g⟩ : Oper) (yielded all.toArray act.tmps) = false := hb σ act ha
        simp only [wpListIn, hw, Bool.false_eq_true, if_false]
        exact ⟨fun f _ => hF.fn f, h3 σ w _ F n Q hs (h2 σ act undef ha (undef_rep σ)) hF hQ⟩
end Go.Ev
namespace Go.Ev
open Go

/-! what the checks of a drawn region say -/
theorem bitOf_eq (m i : Nat) : bitOf m i = m.testBit i := by
  unfold bitOf Nat.testBit
  show (match (m >>> i) &&& 1 with | 0 => false | _ => true) = (1 &&& (m >>> i) != 0)
  rw [Nat.and_comm]
  cases h : (1 &&& (m >>> i)) <;> rfl

def Bf (bs : List Nat) (i j : Nat) : Prop := ∃ m, bs[j]? = some m ∧ m.testBit i = true

theorem maskK_ok {β : Type} {i : Nat} {bad : β} {bs : List Nat} : ∀ {l : List Edge} {m : Nat} {k : Nat → β}, maskK i bad bs l m k = bad ∨
    ∃ m', maskK i bad bs l m k = k m' ∧ (∀ e ∈ l, bindsAny e = true → e.on < i) ∧ ∀ h, m'.testBit h = true → m.testBit h = true ∨ ∃ e ∈ l, bindsAny e = true ∧ (h = e.on ∨ ∃ b, bs[e.on]? = some b ∧ b.testBit h = true) := by
  intro l
  induction l with
  | nil => intro m k; exact .inr ⟨m, rfl, (fun e he => nomatch he), fun h hh => .inl hh⟩
  | cons e l ih =>
    intro m k
    simp only [maskK]
    split
    · rename_i hb
      rcases ih (m := m) (k := k) with h | ⟨m', h1, h2, h3⟩
      · exact .inl h
      · refine .inr ⟨m', h1, fun e' he' hb' => ?_, fun h hh => ?_⟩
        · cases he' with
          | head => rw [hb] at hb'; cases hb'
          | tail _ he' => exact h2 e' he' hb'
        · rcases h3 h hh with g | ⟨e', he', g⟩
          · exact .inl g
          · exact .inr ⟨e', .tail _ he', g⟩
    · rename_i hb
      cases e with | mk on gr =>
      dsimp only
      split
      · exact .inl rfl
      · rename_i hlt
        have hlt := Nat.le_of_ble_eq_true hlt
        split
        · exact .inl rfl
        · rename_i b hbs
          rw [getL_eq] at hbs
          rw [forceN_eq]
          rcases ih (m := Nat.lor m (Nat.lor (Nat.pow 2 on) b)) (k := k) with h | ⟨m', h1, h2, h3⟩
          · exact .inl h
          · refine .inr ⟨m', h1, fun e' he' hb' => ?_, fun h hh => ?_⟩
            · cases he' with
              | head => exact hlt
              | tail _ he' => exact h2 e' he' hb'
            · rcases h3 h hh with g | ⟨e', he', g⟩
              · have g : (m ||| (2 ^ on ||| b)).testBit h = true := g
                rw [Nat.testBit_or, Nat.testBit_or, Nat.testBit_two_pow] at g
                simp only [Bool.or_eq_true, decide_eq_true_eq] at g
                rcases g with g | g | g
                · exact .inl g
                · exact .inr ⟨⟨on, gr⟩, .head _, hb, .inl g.symm⟩
                · exact .inr ⟨⟨on, gr⟩, .head _, hb, .inr ⟨b, hbs, g⟩⟩
              · exact .inr ⟨e', .tail _ he', g⟩

/-- the masks are those of the edges -/
structure MaskOk (all : List Oper) (bs : List Nat) : Prop where
  len : bs.length = all.length
  edge : ∀ (j : Nat) (o : Oper), all[j]? = some o → ∀ e ∈ o.after.toList, bindsAny e = true → e.on < j
  bit : ∀ (j : Nat) (o : Oper), all[j]? = some o → ∀ h, Bf bs h j → ∃ e ∈ o.after.toList, bindsAny e = true ∧ (h = e.on ∨ Bf bs h e.on)

theorem befK_ok {β : Type} {bad : β} : ∀ {l pre : List Oper} {bs : List Nat} {k : List Nat → β}, MaskOk pre bs → befK bad pre.length l bs k = bad ∨
    ∃ bs', befK bad pre.length l bs k = k bs' ∧ MaskOk (pre ++ l) bs' := by
  intro l
  induction l with
  | nil => intro pre bs k h; exact .inr ⟨bs, rfl, by simpa using h⟩
  | cons o l ih =>
    intro pre bs k h
    simp only [befK]
    rcases maskK_ok (i := pre.length) (bad := bad) (bs := bs) (l := o.after.toList) (m := 0) (k := fun m => appLK bs [m] fun bs' => befK bad (Nat.succ pre.length) l bs' k) with g | ⟨m, g, h1, h2⟩
    · exact .inl g
    · rw [g, appLK_eq]
      have hm : MaskOk (pre ++ [o]) (bs ++ [m]) := by
        refine ⟨by simp [h.len], fun j o' hj e he hb => ?_, fun j o' hj hh hB => ?_⟩
        · by_cases c : j < pre.length
          · rw [List.getElem?_append_left c] at hj
            exact h.edge j o' hj e he hb
          · have : j = pre.length := by
              have := (List.getElem?_eq_some_iff.1 hj).1
              simp at this; omega
            subst this
            simp at hj; subst hj
            exact h1 e he hb
        · have lift : ∀ x y, Bf bs x y → Bf (bs ++ [m]) x y := fun x y ⟨q, q1, q2⟩ => ⟨q, by
            rw [List.getElem?_append_left (List.getElem?_eq_some_iff.1 q1).1]; exact q1, q2⟩
          obtain ⟨q, q1, q2⟩ := hB
          by_cases c : j < pre.length
          · rw [List.getElem?_append_left c] at hj
            rw [List.getElem?_append_left (by rw [h.len]; exact c)] at q1
            obtain ⟨e, e1, e2, e3⟩ := h.bit j o' hj hh ⟨q, q1, q2⟩
            exact ⟨e, e1, e2, e3.imp id (lift _ _)⟩
          · have : j = pre.length := by
              have := (List.getElem?_eq_some_iff.1 hj).1
              simp at this; omega
            subst this
            simp at hj; subst hj
            rw [← h.len] at q1
            simp at q1; subst q1
            rcases h2 hh q2 with g | ⟨e, e1, e2, e3⟩
            · simp at g
            · exact ⟨e, e1, e2, e3.imp id (fun ⟨b, b1, b2⟩ => lift _ _ ⟨b, b1, b2⟩)⟩
      have := ih (pre := pre ++ [o]) (bs := bs ++ [m]) (k := k) hm
      simp only [List.length_append, List.length_cons, List.length_nil, Nat.zero_add, List.append_assoc, List.singleton_append] at this
      exact this

theorem apartOk_ok {all : List Oper} {i : Nat} {x : Oper} : ∀ {l : List Oper} {ms : List Nat}, l.length = ms.length → apartOk all i x l ms = true → ∀ (j : Nat) (y : Oper) (m : Nat), l[j]? = some y → ms[j]? = some m → m.testBit i = false → clash all x y = false := by
  intro l
  induction l with
  | nil => intro ms hl h j y m hy; simp at hy
  | cons y l ih =>
    intro ms hl h j y' m' hy hm hb
    cases ms with
    | nil => cases hl
    | cons m ms =>
      simp only [apartOk, bitOf_eq] at h
      cases j with
      | zero =>
        simp at hy hm; subst hy; subst hm
        rw [hb] at h
        dsimp only at h
        split at h
        · cases h
        · rename_i g; exact g
      | succ j =>
        have hl' : l.length = ms.length := by simpa using hl
        split at h
        · exact ih hl' h j y' m' (by simpa using hy) (by simpa using hm) hb
        · split at h
          · cases h
          · exact ih hl' h j y' m' (by simpa using hy) (by simpa using hm) hb
theorem tmpsOk_ok {all : List Oper} : ∀ {l : List Oper} {ms : List Nat} {k : Nat}, l.length = ms.length → tmpsOk all k l ms = true → ∀ (i j : Nat) (x y : Oper) (m : Nat), i < j → l[i]? = some x → l[j]? = some y → ms[j]? = some m → m.testBit (k + i) = false → clash all x y = false := by
  intro l
  induction l with
  | nil => intro ms k hl h i j x y m hij hx; simp at hx
  | cons x0 l ih =>
    intro ms k hl h i j x y m hij hx hy hm hb
    cases ms with
    | nil => cases hl
    | cons m0 ms =>
      have hl' : l.length = ms.length := by simpa using hl
      simp only [tmpsOk] at h
      split at h
      · rename_i hap
        obtain ⟨j, rfl⟩ : ∃ q, j = q + 1 := ⟨j - 1, by omega⟩
        simp at hy hm
        cases i with
        | zero => simp at hx; subst hx; exact apartOk_ok hl' hap j y m hy hm (by simpa using hb)
        | succ i => exact ih hl' h i j x y m (by omega) (by simpa using hx) hy hm (by rw [show Nat.succ k + i = k + (i + 1) by omega]; exact hb)
      · cases h

def isLoud (all : List Oper) (i : Nat) : Prop := ∃ o, all[i]? = some o ∧ clsOf o.op = .loud
theorem rowOk_ok : ∀ {l : List Oper} {ms : List Nat} {last : Option Nat} {i : Nat}, l.length = ms.length → rowOk last i l ms = true → ∀ (j m : Nat), isLoud l j → ms[j]? = some m →
    (∃ i', i' < j ∧ isLoud l i' ∧ (∀ h, h < j → isLoud l h → h ≤ i') ∧ m.testBit (i + i') = true) ∨ ((∀ h, h < j → ¬ isLoud l h) ∧ ∀ p, last = some p → m.testBit p = true) := by
  intro l
  induction l with
  | nil => intro ms last i hl h j m ⟨o, ho, _⟩; simp at ho
  | cons o l ih =>
    intro ms last i hl h j m hj hm
    cases ms with
    | nil => cases hl
    | cons m0 ms =>
      have hl' : l.length = ms.length := by simpa using hl
      have succ : ∀ q, isLoud (o :: l) (q + 1) ↔ isLoud l q := fun q => by simp [isLoud]
      have zero : isLoud (o :: l) 0 ↔ clsOf o.op = .loud := by simp [isLoud]
      simp only [rowOk] at h
      by_cases hc : clsOf o.op = .loud
      · have hrest : rowOk (some i) (Nat.succ i) l ms = true ∧ ∀ p, last = some p → m0.testBit p = true := by
          rw [hc] at h
          dsimp only at h
          split at h
          · exact ⟨h, fun p e => by cases e⟩
          · split at h
            · rename_i g; exact ⟨h, fun p e => by cases e; rw [← bitOf_eq]; exact g⟩
            · cases h
        cases j with
        | zero =>
          simp at hm; subst hm
          exact .inr ⟨fun q hq => by omega, hrest.2⟩
        | succ j =>
          rcases ih hl' hrest.1 j m ((succ j).1 hj) (by simpa using hm) with ⟨i', g1, g2, g3, g4⟩ | ⟨g1, g2⟩
          · refine .inl ⟨i' + 1, by omega, (succ i').2 g2, fun q hq hL => ?_, by rw [show i + (i' + 1) = Nat.succ i + i' by omega]; exact g4⟩
            cases q with
            | zero => omega
            | succ q => have := g3 q (by omega) ((succ q).1 hL); omega
          · refine .inl ⟨0, by omega, zero.2 hc, fun q hq hL => ?_, by simpa using g2 i rfl⟩
            cases q with
            | zero => omega
            | succ q => exact absurd ((succ q).1 hL) (g1 q (by omega))
      · have hrest : rowOk last (Nat.succ i) l ms = true := by
          split at h
          · rename_i g; exact absurd g hc
          · exact h
        cases j with
        | zero => exact absurd (zero.1 hj) hc
        | succ j =>
          rcases ih hl' hrest j m ((succ j).1 hj) (by simpa using hm) with ⟨i', g1, g2, g3, g4⟩ | ⟨g1, g2⟩
          · refine .inl ⟨i' + 1, by omega, (succ i').2 g2, fun q hq hL => ?_, by rw [show i + (i' + 1) = Nat.succ i + i' by omega]; exact g4⟩
            cases q with
            | zero => omega
            | succ q => have := g3 q (by omega) ((succ q).1 hL); omega
          · refine .inr ⟨fun q hq hL => ?_, g2⟩
            cases q with
            | zero => exact hc (zero.1 hL)
            | succ q => exact g1 q (by omega) ((succ q).1 hL)

/-- a set of operations that holds all that comes ahead of its own -/
def Closed (bs : List Nat) (D : Nat → Prop) : Prop := ∀ j, D j → ∀ i, Bf bs i j → D i
theorem row_closed {all : List Oper} {bs : List Nat} (hl : all.length = bs.length) (h : rowOk none 0 all bs = true) {D : Nat → Prop} (hD : Closed bs D) : ∀ (j : Nat), isLoud all j → ∀ i, i < j → isLoud all i → (D j ∨ ∀ q, Bf bs q j → D q) → D i := by
  intro j
  induction j using Nat.strongRecOn with
  | _ j ih =>
    intro hj i hij hi hDj
    have hjm : ∃ m, bs[j]? = some m := by
      obtain ⟨o, ho, _⟩ := hj
      have := (List.getElem?_eq_some_iff.1 ho).1
      exact ⟨bs[j], by simp [← hl, this]⟩
    obtain ⟨m, hm⟩ := hjm
    rcases rowOk_ok hl h j m hj hm with ⟨i', g1, g2, g3, g4⟩ | ⟨g1, _⟩
    · have hb : Bf bs i' j := ⟨m, hm, by simpa using g4⟩
      have hDi' : D i' := by
        rcases hDj with h | h
        · exact hD j h i' hb
        · exact h i' hb
      have hle := g3 i hij hi
      rcases Nat.lt_or_ge i i' with c | c
      · exact ih i' g1 g2 i c hi (.inl hDi')
      · have : i = i' := by omega
        subst this; exact hDi'
    · exact absurd hi (g1 i hij)

/-! pure operations -/
def XPure (P : Program) (ν : Nat → Int) (nt : Nat) (op : Op) (a : A) (v : SV) : Prop :=
  ∀ σ w act (o : Oper), o.op = op → RepA ν σ nt a act → ∃ V, (execOp act.eval o).run P w = .ok (.value V) w ∧ Rep ν σ v V
end Go.Ev
namespace Go.Ev
open Go
variable {ν : Nat → Int} {P : Program} {E : Env} {base : Nat} {nt : Nat}

theorem XPure.intro {op : Op} {a : A} {v : SV}
    (h : ∀ σ w act (o : Oper), o.op = op → RepA ν σ nt a act → ∃ V, (execOp act.eval o).run P w = .ok (.value V) w ∧ Rep ν σ v V) : XPure P ν nt op a v := h
theorem execC_pure (hE : EOk P E ν) {op : Op} (hc : clsOf op = .pure) {self : Self} {a : A} {st : St} {k : SV → St → R} {out} (h : (execC E nt op).run self a st k = .ok out) :
    ∃ v, k v st = .ok out ∧ XPure P ν nt op a v := by
  cases op <;> (first | (cases hc; done) | skip) <;> dsimp only [execC] at h <;> try (cases h; done)
  case move x =>
    obtain ⟨v, h, h1⟩ := opC_ok (ν := ν) h
    exact ⟨v, h, .intro fun σ w act o ho ha => ⟨_, by simp [execOp, ho], h1 σ act ha⟩⟩
  case assign x =>
    obtain ⟨v, h, h1⟩ := opC_ok (ν := ν) h
    exact ⟨v, h, .intro fun σ w act o ho ha => ⟨_, by simp [execOp, ho], h1 σ act ha⟩⟩
  case pick c x y =>
    have h0 := opC_ok (ν := ν) h; clear h; obtain ⟨v, h, h1⟩ := h0
    split at h
    · obtain ⟨u, h, h2⟩ := opC_ok (ν := ν) h
      refine ⟨u, h, .intro fun σ w act o ho ha => ⟨_, ?_, h2 σ act ha⟩⟩
      have := h1 σ act ha
      simp only [Rep] at this
      simp [execOp, ho, this, asBool]
    · obtain ⟨u, h, h2⟩ := opC_ok (ν := ν) h
      refine ⟨u, h, .intro fun σ w act o ho ha => ⟨_, ?_, h2 σ act ha⟩⟩
      have := h1 σ act ha
      simp only [Rep] at this
      simp [execOp, ho, this, asBool]
    · cases h
  case build t parts =>
    obtain ⟨v, h, h1⟩ := buildC_ok hE h
    refine ⟨v, h, .intro fun σ w act o ho ha => ?_⟩
    obtain ⟨V, r1, r2⟩ := h1 σ act w ha
    refine ⟨V, ?_, r2⟩
    have e : parts.map (fun (i, x) => (i, act.eval x)) = (parts.toList.map fun p => (p.1, act.eval p.2)).toArray := by
      apply Array.ext'; simp
    simp [execOp, ho, e, r1]
  case nilCheck x =>
    have h0 := opC_ok (ν := ν) h; clear h; obtain ⟨v, h, h1⟩ := h0
    split at h
    · refine ⟨_, h, .intro fun σ w act o ho ha => ⟨_, ?_, h1 σ act ha⟩⟩
      have := h1 σ act ha
      simp only [Rep] at this
      obtain ⟨b, z, _, e⟩ := this
      simp [execOp, ho, e]
    · refine ⟨_, h, .intro fun σ w act o ho ha => ⟨_, ?_, h1 σ act ha⟩⟩
      have := h1 σ act ha
      simp only [Rep] at this
      obtain ⟨F, C, e, _⟩ := this
      simp [execOp, ho, e]
    · refine ⟨_, h, .intro fun σ w act o ho ha => ⟨_, ?_, h1 σ act ha⟩⟩
      have := h1 σ act ha
      simp only [Rep] at this
      obtain ⟨b, z, _, e⟩ := this
      simp [execOp, ho, e]
    · refine ⟨_, h, .intro fun σ w act o ho ha => ⟨_, ?_, h1 σ act ha⟩⟩
      have := h1 σ act ha
      simp only [Rep] at this
      simp [execOp, ho, this]
    · cases h
  case binOp op t x y yt =>
    have h0 := opC_ok (ν := ν) h; clear h; obtain ⟨v, h, h1⟩ := h0
    have h0 := opC_ok (ν := ν) h; clear h; obtain ⟨u, h, h2⟩ := h0
    obtain ⟨r, h, h3⟩ := binC_ok hE h
    refine ⟨_, h, .intro fun σ w act o ho ha => ?_⟩
    obtain ⟨V, r1, r2, r3⟩ := h3 σ _ _ x y w (h1 σ act ha) (h2 σ act ha)
    exact ⟨V, by simp [execOp, ho, r1, r2], r3⟩
  case unOp op t x =>
    have h0 := opC_ok (ν := ν) h; clear h; obtain ⟨v, h, h1⟩ := h0
    obtain ⟨r, h, h3⟩ := unC_ok (P := P) (ν := ν) h
    refine ⟨_, h, .intro fun σ w act o ho ha => ?_⟩
    obtain ⟨V, r1, r2⟩ := h3 σ _ w (h1 σ act ha)
    exact ⟨V, by simp [execOp, ho, r1], r2⟩
  case convert s d x =>
    have h0 := opC_ok (ν := ν) h; clear h; obtain ⟨v, h, h1⟩ := h0
    obtain ⟨r, h, h3⟩ := convC_ok hE h
    refine ⟨_, h, .intro fun σ w act o ho ha => ?_⟩
    obtain ⟨V, r1, r2⟩ := h3 σ _ w (h1 σ act ha)
    exact ⟨V, by simp [execOp, ho, r1], r2⟩
  case makeFunc fn first captured =>
    have h0 := opsC_ok (ν := ν) h; clear h; obtain ⟨fs, h, h1⟩ := h0
    have h0 := opsC_ok (ν := ν) h; clear h; obtain ⟨cs, h, h2⟩ := h0
    refine ⟨_, h, .intro fun σ w act o ho ha => ?_⟩
    refine ⟨.func fn (first.map act.eval) (captured.map act.eval), by simp [execOp, ho, Instr.makeFunc], ?_⟩
    simp only [Rep]
    exact ⟨_, _, rfl, by simpa using h1 σ act ha, by simpa using h2 σ act ha⟩
  case slice t x lo hi mx =>
    have h0 := opC_ok (ν := ν) h; clear h; obtain ⟨v, h, h1⟩ := h0
    have h0 := optC_ok (ν := ν) h; clear h; obtain ⟨l, h, h2⟩ := h0
    have h0 := optC_ok (ν := ν) h; clear h; obtain ⟨hh, h, h3⟩ := h0
    have h0 := optC_ok (ν := ν) h; clear h; obtain ⟨m, h, h4⟩ := h0
    obtain ⟨r, h, h5⟩ := sliceC_ok hE h
    refine ⟨_, h, .intro fun σ w act o ho ha => ?_⟩
    obtain ⟨V, r1, r2⟩ := h5 σ _ _ _ _ w (h1 σ act ha) (opt_rep (h2 σ act ha)) (opt_rep (h3 σ act ha)) (opt_rep (h4 σ act ha))
    exact ⟨V, by simp [execOp, ho, r1], r2⟩
  case fieldAddr s x f =>
    have h0 := fieldC_xf hE h; clear h; obtain ⟨fs, fd, hu, hf, h⟩ := h0
    have h0 := sizeC_xf h; clear h; obtain ⟨i, hi, h⟩ := h0
    split at h
    · cases h
    rename_i hne
    have hne : i.size ≠ 0 := fun e => by rw [e] at hne; cases hne
    have h0 := opC_ok (ν := ν) h; clear h; obtain ⟨v, h, h1⟩ := h0
    obtain ⟨q, h, h2⟩ := moveP_ok (ν := ν) h
    refine ⟨_, h, .intro fun σ w act o ho ha => ?_⟩
    obtain ⟨b, off, e, r1⟩ := h2 σ _ (h1 σ act ha)
    refine ⟨_, ?_, r1⟩
    simp [execOp, ho, Instr.fieldAt, run_underlying hu, hf, Instr.sureAddr, e, fieldPlace, hE.size hi, hne, Addr.add_eq]
  case field s x f =>
    have h0 := fieldC_xf hE h; clear h; obtain ⟨fs, fd, hu, hf, h⟩ := h0
    have h0 := opC_ok (ν := ν) h; clear h; obtain ⟨v, h, h1⟩ := h0
    split at h
    case h_2 => cases h
    obtain ⟨r, h, h2⟩ := partC_ok hE h
    refine ⟨_, h, .intro fun σ w act o ho ha => ?_⟩
    have hv := h1 σ act ha
    simp only [Rep] at hv
    obtain ⟨C, e, hC⟩ := hv
    obtain ⟨V, r1, r2⟩ := h2 σ C w hC
    exact ⟨V, by simp [execOp, ho, Instr.field, run_underlying hu, e, hf, asAgg, r1], r2⟩
  case indexAddr t x i =>
    have h0 := opC_ok (ν := ν) h; clear h; obtain ⟨v, h, h1⟩ := h0
    have h0 := opC_ok (ν := ν) h; clear h; obtain ⟨u, h, h2⟩ := h0
    obtain ⟨r, h, h3⟩ := indexAddrC_ok hE h
    refine ⟨_, h, .intro fun σ w act o ho ha => ?_⟩
    obtain ⟨V, r1, r2⟩ := h3 σ _ _ w (h1 σ act ha) (h2 σ act ha)
    exact ⟨V, by simp [execOp, ho, r1], r2⟩
  case index t x i =>
    have h0 := opC_ok (ν := ν) h; clear h; obtain ⟨v, h, h1⟩ := h0
    have h0 := opC_ok (ν := ν) h; clear h; obtain ⟨u, h, h2⟩ := h0
    obtain ⟨r, h, h3⟩ := indexC_ok hE h
    refine ⟨_, h, .intro fun σ w act o ho ha => ?_⟩
    obtain ⟨V, r1, r2⟩ := h3 σ _ _ w (h1 σ act ha) (h2 σ act ha)
    exact ⟨V, by simp [execOp, ho, r1], r2⟩
  case extract x i =>
    have h0 := opC_ok (ν := ν) h; clear h; obtain ⟨v, h, h1⟩ := h0
    split at h
    case h_2 => cases h
    split at h
    case h_2 => cases h
    rename_i u hu
    rw [getL_eq] at hu
    refine ⟨_, h, .intro fun σ w act o ho ha => ?_⟩
    have hv := h1 σ act ha
    simp only [Rep] at hv
    obtain ⟨C, e, hC⟩ := hv
    obtain ⟨V, r1, r2⟩ := hC.get i u hu
    rw [Array.getElem?_toList] at r1
    exact ⟨V, by simp [execOp, ho, Instr.extract, e, r1], r2⟩
  case call c =>
    exfalso
    simp only [clsOf] at hc
    split at hc <;> cases hc
end Go.Ev
namespace Go.Ev
open Go
variable {ν : Nat → Int} {P : Program} {E : Env} {base : Nat} {nt : Nat}

theorem Sim.next_mono {σ : Sg} {h : T AB} {n n' : Nat} {w : World} (k : Sim P E ν base σ ⟨h, n⟩ w) (hn : n ≤ n') : Sim P E ν base σ ⟨h, n'⟩ w :=
  ⟨fun m hm => k.fresh m (Nat.le_trans hn hm), k.blk, k.inj, k.glob, k.size⟩

/-- a block that the evaluator does not track yet -/
def Loose (P : Program) (ν : Nat → Int) (base low : Nat) (σ : Sg) (st : St) (w : World) (n : Nat) (b : AB) : Prop :=
  ∃ bl z o, σ n = some (bl, z) ∧ low ≤ bl ∧ base ≤ bl ∧ w.heap[bl]? = some o ∧ b.Is P ν σ z o ∧ ∀ m c y, getT st.heap m = some c → σ m ≠ some (bl, y)

theorem sim_loose {σ : Sg} {st : St} {w : World} (h : Sim P E ν base σ st w) {n : Nat} (hn : n < st.next) (hs : σ n = none) (z : Nat) (o : Obj) :
    Sim P E ν base (σ.add n (w.heap.size, z)) st { w with heap := w.heap.push o } := by
  have hle : σ.le (σ.add n (w.heap.size, z)) := Sg.le_add _ hs
  have hne : ∀ m c, getT st.heap m = some c → m ≠ n := fun m c hm e => by
    obtain ⟨_, _, _, h1, _⟩ := h.blk m c hm
    rw [e, hs] at h1; cases h1
  refine ⟨fun m hm => by rw [Sg.add_ne _ _ (by omega)]; exact h.fresh m hm, fun m c hm => ?_, fun m k c d x y u hm hk em ek => ?_, fun g cs e => ?_, ?_⟩
  · obtain ⟨bl, y, ob, h1, h2, h3, h4⟩ := h.blk m c hm
    have hlt : bl < w.heap.size := (Array.getElem?_eq_some_iff.1 h3).1
    exact ⟨bl, y, ob, hle _ _ h1, h2, by rw [Array.getElem?_push_lt hlt]; rw [Array.getElem?_eq_getElem hlt] at h3; exact h3, h4.mono hle⟩
  · rw [Sg.add_ne _ _ (hne m c hm)] at em
    rw [Sg.add_ne _ _ (hne k d hk)] at ek
    exact h.inj m k c d x y u hm hk em ek
  · obtain ⟨k1, C, t, f, k2, k3⟩ := h.glob g cs e
    have hlt : g < w.heap.size := (Array.getElem?_eq_some_iff.1 k2).1
    exact ⟨k1, C, t, f, by rw [Array.getElem?_push_lt hlt]; rw [Array.getElem?_eq_getElem hlt] at k2; exact k2, k3.mono hle⟩
  · have := h.size
    simp; omega
theorem post_loose {σ0 σ : Sg} {st0 st : St} {w0 w : World} (h : Post σ0 st0 w0 σ st w) {n : Nat} (hn : st0.next ≤ n) (_hs : σ n = none) (hb : ∀ m c, getT st.heap m = some c → m ≠ n) (z : Nat) (o : Obj) :
    Post σ0 st0 w0 (σ.add n (w.heap.size, z)) st { w with heap := w.heap.push o } := by
  refine ⟨fun m hm => by rw [Sg.add_ne _ _ (by omega)]; exact h.same m hm, h.next, by have := h.size; simp; omega, fun b hb' hu => ?_, fun m c b y hm e => ?_, h.os, h.tape, h.output⟩
  · rw [← h.keep b hb' hu]
    have := h.size
    rw [Array.getElem?_push_lt (by omega), Array.getElem?_eq_getElem (by omega)]
  · rw [Sg.add_ne _ _ (hb m c hm)] at e
    exact h.dom m c b y hm e

/-- a block set in the evaluator's heap -/
def SetTo (st : St) (n : Nat) (b : AB) (st' : St) : Prop := st'.next = st.next ∧ ∀ m, getT st'.heap m = if m = n then some b else getT st.heap m

theorem sim_commit {σ : Sg} {st st' : St} {w : World} {low : Nat} (h : Sim P E ν base σ st w) {n : Nat} {b : AB} (hl : Loose P ν base low σ st w n b) (hset : SetTo st n b st') : Sim P E ν base σ st' w := by
  obtain ⟨bl, z, o, h1, h0, h2, h3, h4, h5⟩ := hl
  refine ⟨fun m hm => h.fresh m (by have := hset.1; omega), fun m c hm => ?_, fun m k c d x y u hm hk em ek => ?_, h.glob, h.size⟩
  · rw [hset.2] at hm
    split at hm
    · rename_i e; cases hm; subst e; exact ⟨bl, z, o, h1, h2, h3, h4⟩
    · exact h.blk m c hm
  · rw [hset.2] at hm hk
    by_cases e1 : m = n
    · by_cases e2 : k = n
      · omega
      · subst e1
        rw [if_neg e2] at hk
        rw [h1] at em; cases em
        exact absurd ek (h5 k d _ hk)
    · rw [if_neg e1] at hm
      by_cases e2 : k = n
      · subst e2
        rw [h1] at ek; cases ek
        exact absurd em (h5 m c _ hm)
      · rw [if_neg e2] at hk
        exact h.inj m k c d x y u hm hk em ek
theorem post_commit {σ0 σ : Sg} {st0 st st' : St} {w0 w : World} (h : Post σ0 st0 w0 σ st w) {n : Nat} {b : AB} (hl : Loose P ν base w0.heap.size σ st w n b) (hset : SetTo st n b st') : Post σ0 st0 w0 σ st' w := by
  obtain ⟨bl, z, o, h1, h0, h2, h3, h4, h5⟩ := hl
  refine ⟨h.same, by rw [hset.1]; exact h.next, h.size, h.keep, fun m c b' y hm e => ?_, h.os, h.tape, h.output⟩
  rw [hset.2] at hm
  split at hm
  · rename_i e2; subst e2; rw [h1] at e; cases e; exact .inr h0
  · exact h.dom m c b' y hm e
/-- loose blocks at different places -/
def Apart (σ : Sg) (n m : Nat) : Prop := ∀ b y z, σ n = some (b, y) → σ m ≠ some (b, z)
theorem Loose.commit {σ : Sg} {st st' : St} {w : World} {low n m : Nat} {b c : AB} (hn : Loose P ν base low σ st w n b) (hm : Loose P ν base low σ st w m c) (hset : SetTo st m c st') (ha : Apart σ n m) : Loose P ν base low σ st' w n b := by
  obtain ⟨bl, z, o, h1, h0, h2, h3, h4, h5⟩ := hn
  refine ⟨bl, z, o, h1, h0, h2, h3, h4, fun k d y hk => ?_⟩
  rw [hset.2] at hk
  split at hk
  · rename_i e; subst e; exact ha bl z y h1
  · exact h5 k d y hk
theorem Loose.push {σ : Sg} {st : St} {w : World} {low n : Nat} {b : AB} (hn : Loose P ν base low σ st w n b) {m : Nat} (hs : σ m = none) (hb : ∀ k c, getT st.heap k = some c → k ≠ m) (z : Nat) (o : Obj) :
    Loose P ν base low (σ.add m (w.heap.size, z)) st { w with heap := w.heap.push o } n b := by
  obtain ⟨bl, y, ob, h1, h0, h2, h3, h4, h5⟩ := hn
  have hle : σ.le (σ.add m (w.heap.size, z)) := Sg.le_add _ hs
  have hlt : bl < w.heap.size := (Array.getElem?_eq_some_iff.1 h3).1
  refine ⟨bl, y, ob, hle _ _ h1, h0, h2, by rw [Array.getElem?_push_lt hlt]; rw [Array.getElem?_eq_getElem hlt] at h3; exact h3, h4.mono hle, fun k d u hk => ?_⟩
  rw [Sg.add_ne _ _ (hb k d hk)]
  exact h5 k d u hk
theorem Loose.goes {σ σ' : Sg} {st st' : St} {w w' : World} {low n : Nat} {b : AB} (hs : Sim P E ν base σ st w) (hn : Loose P ν base low σ st w n b) (go : Goes P E ν base σ st w σ' st' w') : Loose P ν base low σ' st' w' n b := by
  obtain ⟨bl, y, ob, h1, h0, h2, h3, h4, h5⟩ := hn
  have hle := go.le hs
  have hlt : bl < w.heap.size := (Array.getElem?_eq_some_iff.1 h3).1
  refine ⟨bl, y, ob, hle _ _ h1, h0, h2, by rw [go.1.keep bl hlt (fun m c z hm => h5 m c z hm)]; exact h3, h4.mono hle, fun k d u hk e => ?_⟩
  rcases go.1.dom k d bl u hk e with ⟨m, d', y', g1, g2⟩ | g
  · exact h5 m d' y' g1 g2
  · omega
end Go.Ev
namespace Go.Ev
open Go
variable {ν : Nat → Int} {P : Program} {E : Env} {base : Nat} {nt : Nat}

theorem freshK_ok {β : Type} : ∀ (n : Nat) (k : List C8 → β), ∃ cs, freshK n k = k cs ∧ (flat cs).length = 8 * n ∧ ∀ t, t < 8 * n → (flat cs)[t]? = some undefS := by
  intro n
  induction n with
  | zero => intro k; exact ⟨[], rfl, rfl, fun t ht => by omega⟩
  | succ n ih =>
    intro k
    obtain ⟨cs, h1, h2, h3⟩ := ih (fun l => k (u8 :: l))
    refine ⟨u8 :: cs, h1, by simp [flat, u8, C8.list, h2]; omega, fun t ht => ?_⟩
    simp only [flat, u8, C8.list]
    by_cases g : t < 8
    · match t, g with
      | 0, _ => simp
      | 1, _ => simp
      | 2, _ => simp
      | 3, _ => simp
      | 4, _ => simp
      | 5, _ => simp
      | 6, _ => simp
      | 7, _ => simp
    · rw [List.getElem?_append_right (by simp; omega)]
      have := h3 (t - 8) (by omega)
      simp only [List.length_cons, List.length_nil]
      rw [this]

/-- only the temporaries ts of a -/
structure Only (nt : Nat) (ts : List Tmp) (a a1 : A) : Prop where
  marks : a1.marks = a.marks
  on : ∀ t ∈ ts, t < nt ∧ ∃ s, liveV s = true ∧ (flat a.tmps)[t]? = some s ∧ (flat a1.tmps)[t]? = some s
  off : ∀ t, t < nt → t ∉ ts → (flat a1.tmps)[t]? = some undefS

theorem onlyC_ok {fresh : List C8} (hl : nt ≤ (flat fresh).length) (hf : ∀ t, t < nt → (flat fresh)[t]? = some undefS) : ∀ {ts : List Tmp} {a : A} {k : A → R} {out}, (onlyC nt fresh ts).run a k = .ok out →
    ∃ a1, k a1 = .ok out ∧ Only nt ts a a1 ∧ (flat a1.tmps).length = (flat fresh).length := by
  intro ts
  induction ts with
  | nil =>
    intro a k out h
    cases a with | mk tm ms =>
    exact ⟨⟨fresh, ms⟩, h, ⟨rfl, (fun t ht => nomatch ht), fun t ht _ => hf t ht⟩, rfl⟩
  | cons t ts ih =>
    intro a k out h
    simp only [onlyC] at h
    have hget : ∃ s, t < nt ∧ liveV s = true ∧ (flat a.tmps)[t]? = some s ∧ ((onlyC nt fresh ts).run a fun a' => putA t a' s k) = .ok out := by
      unfold opC at h
      dsimp only at h
      split at h
      · rename_i hb
        cases a with | mk tm ms =>
        obtain ⟨s, h1, h2⟩ := tmpG_get (k := fun v => match liveV v with
          | true => (onlyC nt fresh ts).run ⟨tm, ms⟩ fun a' => putA t a' v k
          | false => .err "dead") h
        split at h2
        case h_2 => cases h2
        rename_i hv
        exact ⟨s, Nat.le_of_ble_eq_true hb, hv, h1, h2⟩
      · cases h
    obtain ⟨s, hlt, hlv, hs, h⟩ := hget
    obtain ⟨a1, h1, h2, h3⟩ := ih h
    obtain ⟨a2, g1, g2, g3⟩ := putA_ok h1
    refine ⟨a2, g1, ⟨by rw [g3, h2.marks], fun u hu => ?_, fun u hu hn => ?_⟩, by rw [g2, List.length_set, h3]⟩
    · by_cases e : u = t
      · subst e
        refine ⟨hlt, s, hlv, hs, ?_⟩
        rw [g2]
        exact List.getElem?_set_self (by rw [h3]; exact Nat.lt_of_lt_of_le hlt hl)
      · cases hu with
        | head => exact absurd rfl e
        | tail _ hu =>
          obtain ⟨q1, r, q0, q2, q3⟩ := h2.on u hu
          exact ⟨q1, r, q0, q2, by rw [g2, List.getElem?_set_ne (fun e' => e e'.symm)]; exact q3⟩
    · have e : u ≠ t := fun e => hn (by rw [e]; exact .head _)
      rw [g2, List.getElem?_set_ne (fun e' => e e'.symm)]
      exact h2.off u hu (fun g => hn (.tail _ g))

def DefOk (σ : Sg) (marks : List Nat) (ds : List Deferred) : Prop :=
  ∃ Ds : List Nat, ds = Ds.map (fun D => { target := .collected D, args := #[] }) ∧ Ds.length = marks.length ∧ ∀ (i m D : Nat), marks[i]? = some m → Ds[i]? = some D → ∃ z, σ m = some (D, z)

theorem Only.rep {ts : List Tmp} {a a1 : A} (h : Only nt ts a a1) {σ : Sg} {act : Act} (hsz : act.tmps.size = nt) (hd : DefOk σ a.marks act.defers)
    (hr : ∀ t ∈ ts, t < nt → ∀ s, (flat a1.tmps)[t]? = some s → ∃ W, act.tmps[t]? = some W ∧ Rep ν σ s W) :
    ∃ act1 : Act, RepA ν σ nt a1 act1 ∧ (∀ t ∈ ts, act1.tmps[t]? = act.tmps[t]?) ∧ act1.defers = act.defers := by
  refine ⟨⟨((List.range nt).map fun t => if t ∈ ts then act.tmps.getD t undef else undef).toArray, act.defers⟩, ⟨⟨by simp, fun t ht => ?_⟩, by rw [h.marks]; exact hd⟩, fun t ht => ?_, rfl⟩
  · by_cases e : t ∈ ts
    · obtain ⟨_, s, _, _, g⟩ := h.on t e
      obtain ⟨W, w1, w2⟩ := hr t e ht s g
      refine ⟨s, W, g, ?_, .inr w2⟩
      simp [ht, e, w1]
    · exact ⟨undefS, undef, h.off t ht e, by simp [ht, e], .inr (undef_rep σ)⟩
  · have hlt := (h.on t ht).1
    have : t < act.tmps.size := by rw [hsz]; exact hlt
    simp [hlt, ht, this]

theorem tmpsOf_mem {l : List Operand} {t : Tmp} (h : Operand.tmp t ∈ l) : t ∈ tmpsOf l := by
  induction l with
  | nil => cases h
  | cons o l ih =>
    cases h with
    | head => simp only [tmpsOf]; exact .head _
    | tail _ h =>
      cases o <;> simp only [tmpsOf]
      case tmp u => exact .tail _ (ih h)
      all_goals exact ih h
theorem looksL_ops {all : List Oper} {o : Oper} {t : Tmp} (h : Operand.tmp t ∈ o.op.operands) : t ∈ looksL all o := by
  have := tmpsOf_mem (l := o.op.operands.toList) (by simpa using h)
  unfold looksL
  split
  · exact .tail _ this
  · exact this
theorem looksL_guard {all : List Oper} {o : Oper} {u : Tmp} (h : guardT all o = some u) : u ∈ looksL all o := by
  unfold looksL; rw [h]; exact .head _

theorem eval_agree {all : List Oper} {o : Oper} {act act1 : Act} (h : ∀ t ∈ looksL all o, act1.tmps[t]? = act.tmps[t]?) : ∀ x ∈ o.op.operands, act1.eval x = act.eval x := by
  intro x hx
  cases x with
  | tmp t => simp only [Act.eval, Array.getD_eq_getD_getElem?, h t (looksL_ops hx)]
  | const v => rfl
  | global g => rfl
  | func f => rfl
theorem wanted_agree {all : List Oper} {o : Oper} {act act1 : Act} (h : ∀ t ∈ looksL all o, act1.tmps[t]? = act.tmps[t]?) : Region.wanted o (yielded all.toArray act1.tmps) = Region.wanted o (yielded all.toArray act.tmps) := by
  unfold Region.wanted
  cases hg : o.guard with
  | none => rfl
  | some g =>
    obtain ⟨j, want⟩ := g
    dsimp only
    have : yielded all.toArray act1.tmps j = yielded all.toArray act.tmps j := by
      unfold yielded
      simp only [List.getElem?_toArray]
      cases hj : all[j]? with
      | none => rfl
      | some q =>
        simp only [Option.bind_some]
        cases hd : q.dst with
        | none => rfl
        | some u =>
          simp only [Option.bind_some]
          rw [h u (looksL_guard (by simp [guardT, hg, getL_eq, hj, hd]))]
    rw [this]

theorem wantG_ok {all : List Oper} {o : Oper} {a : A} {k : Bool → R} {out} (h : (wantG nt all o.guard).run a k = .ok out) :
    ∃ b, k b = .ok out ∧ ∀ σ act, RepA ν σ nt a act → Region.wanted o (yielded all.toArray act.tmps) = b := by
  unfold wantG at h
  unfold Region.wanted
  split at h
  · rename_i hg
    refine ⟨true, h, fun σ act _ => by rw [hg]⟩
  · rename_i g hg
    obtain ⟨b, h1, h2⟩ := wantC_ok (ν := ν) h
    refine ⟨b, h1, fun σ act ha => ?_⟩
    rw [hg]
    exact h2 σ act ha
end Go.Ev
namespace Go.Ev
open Go
variable {ν : Nat → Int} {P : Program} {E : Env} {base : Nat} {nt : Nat}

def XLoad (P : Program) (E : Env) (ν : Nat → Int) (base nt : Nat) (op : Op) (a : A) (st : St) (v : SV) : Prop :=
  ∀ σ w act (o : Oper), o.op = op → Sim P E ν base σ st w → RepA ν σ nt a act → ∃ V, (execOp act.eval o).run P w = .ok (.value V) w ∧ Rep ν σ v V

theorem execC_load (hE : EOk P E ν) {op : Op} (hc : clsOf op = .load) {self : Self} {a : A} {st : St} {k : SV → St → R} {out} (h : (execC E nt op).run self a st k = .ok out) :
    ∃ v, k v st = .ok out ∧ XLoad P E ν base nt op a st v := by
  cases op <;> (first | (cases hc; done) | skip) <;> dsimp only [execC] at h <;> try (cases h; done)
  case load t x =>
    have h0 := opC_ok (ν := ν) h; clear h; obtain ⟨p, h, h1⟩ := h0
    obtain ⟨v, h, h2⟩ := loadC_ok (base := base) hE h
    refine ⟨v, h, fun σ w act o ho hs ha => ?_⟩
    obtain ⟨U, r1, _, r2⟩ := h2 σ w _ hs (h1 σ act ha)
    exact ⟨U, by simp [execOp, ho, r1], r2⟩
  case lookup t m i ok =>
    have h0 := opC_ok (ν := ν) h; clear h; obtain ⟨v, h, h1⟩ := h0
    have h0 := opC_ok (ν := ν) h; clear h; obtain ⟨u, h, h2⟩ := h0
    obtain ⟨r, h, h3⟩ := lookupC_ok (base := base) hE h
    refine ⟨_, h, fun σ w act o ho hs ha => ?_⟩
    obtain ⟨V, r1, r2⟩ := h3 σ w _ _ hs (h1 σ act ha) (h2 σ act ha)
    exact ⟨V, by simp [execOp, ho, r1], r2⟩
  case call c =>
    have hb : ∃ b, c.callee = .builtin b ∧ (b = .len ∨ b = .cap ∨ b = .min ∨ b = .max) := by
      simp only [clsOf] at hc
      split at hc
      · rename_i g; exact ⟨_, g, .inl rfl⟩
      · rename_i g; exact ⟨_, g, .inr (.inl rfl)⟩
      · rename_i g; exact ⟨_, g, .inr (.inr (.inl rfl))⟩
      · rename_i g; exact ⟨_, g, .inr (.inr (.inr rfl))⟩
      · cases hc
    obtain ⟨b, hb, hbb⟩ := hb
    rw [hb] at h
    dsimp only at h
    have h0 := opsC_ok (ν := ν) h; clear h; obtain ⟨args, h, h1⟩ := h0
    have key : ∃ v, k v st = .ok out ∧ ∀ σ w Args ty consts, Sim P E ν base σ st w → RepL ν σ args Args.toList → ∃ V, (builtin b c.argTypes ty consts Args).run P w = .ok (.value V) w ∧ Rep ν σ v V := by
      rcases hbb with rfl | rfl | rfl | rfl <;> dsimp only [builtinC] at h
      · split at h
        case h_2 => cases h
        rename_i t l hts
        dsimp only at h
        split at h
        case h_2 => cases h
        obtain ⟨v, h, h1⟩ := lenC2_ok (base := base) hE (ts := c.argTypes) (by rw [arr hts]; simp) h
        refine ⟨_, h, fun σ w Args ty consts hs hA => ?_⟩
        obtain ⟨X, rfl, hX⟩ := one hA
        obtain ⟨V, r1, r2⟩ := h1 ty σ w X hs hX
        exact ⟨V, by simp [builtin, r1], r2⟩
      · have h0 := sliceElem_ok (hE := hE) h; clear h; obtain ⟨t, l, elem, hts, ht, h⟩ := h0
        dsimp only at h
        split at h
        · rename_i n off len c'
          refine ⟨_, h, fun σ w Args ty consts hs hA => ?_⟩
          obtain ⟨X, rfl, hX⟩ := one hA
          simp only [Rep] at hX
          obtain ⟨b, z, l', c2, g1, rfl, g2, g3, g4, g5⟩ := hX
          have := g4 c' rfl; subst this
          rw [arr hts]
          exact ⟨goInt c2, by simp [builtin, Builtin.cap_, run_underlying ht], by simp only [Rep]; rfl⟩
        · refine ⟨_, h, fun σ w Args ty consts hs hA => ?_⟩
          obtain ⟨X, rfl, hX⟩ := one hA
          simp only [Rep] at hX; subst hX
          rw [arr hts]
          exact ⟨goInt 0, by simp [builtin, Builtin.cap_, run_underlying ht], by simp only [Rep]; rfl⟩
        · cases h
      · split at h
        case h_2 => cases h
        obtain ⟨v, h, h1⟩ := minK_ok (P := P) (ν := ν) hE h
        refine ⟨_, h, fun σ w Args ty consts hs hA => ?_⟩
        obtain ⟨X, Y, rfl, hX, hY⟩ := two hA
        obtain ⟨V, r1, r2⟩ := h1 σ X Y hX hY
        exact ⟨V, by simp [builtin, Builtin.min_, r1], r2⟩
      · split at h
        case h_2 => cases h
        obtain ⟨v, h, h1⟩ := minK_ok (P := P) (ν := ν) hE h
        refine ⟨_, h, fun σ w Args ty consts hs hA => ?_⟩
        obtain ⟨X, Y, rfl, hX, hY⟩ := two hA
        obtain ⟨V, r1, r2⟩ := h1 σ X Y hX hY
        exact ⟨V, by simp [builtin, Builtin.max_, r1], r2⟩
    obtain ⟨v, h, h2⟩ := key
    refine ⟨v, h, fun σ w act o ho hs ha => ?_⟩
    have e : ∃ consts, (execOp act.eval o).run P w = (builtin b c.argTypes o.type consts (c.args.map act.eval)).run P w := by
      refine ⟨?_, ?_⟩
      rotate_left
      · simp only [execOp, ho, resolve, hb, Sem.run_bind, Sem.run_pure, Result.andThen_ok, invoke]
        rfl
    obtain ⟨consts, e⟩ := e
    obtain ⟨V, r1, r2⟩ := h2 σ w (c.args.map act.eval) o.type consts hs (by simpa using h1 σ act ha)
    exact ⟨V, e.trans r1, r2⟩

/-! values compared -/
theorem listB_ok : ∀ {a b : List UInt8}, listB a b = true → a = b := by
  intro a
  induction a with
  | nil => intro b h; cases b with
    | nil => rfl
    | cons _ _ => cases h
  | cons x a ih => intro b h; cases b with
    | nil => cases h
    | cons y b =>
      simp only [listB] at h
      split at h
      · rename_i g
        have := Nat.eq_of_beq_eq_true g
        rw [ih h, UInt8.toNat_inj.1 this]
      · cases h
end Go.Ev
namespace Go.Ev
open Go
variable {ν : Nat → Int} {P : Program} {E : Env} {base : Nat} {nt : Nat}

theorem eqI_ok {a b : Int} (h : eqI a b = true) : a = b := by rw [eqI_eq] at h; simpa using h
mutual
theorem beqSV_ok : ∀ (a b : SV), beqSV a b = true → a = b
  | a, b, h => by
    unfold beqSV at h
    split at h
    all_goals try (cases h; done)
    all_goals try rfl
    all_goals (repeat' split at h) <;> try (cases h; done)
    all_goals first
      | (rename_i g; rw [eqK2_ok g, eqI_ok h]; done)
      | (rename_i g; rw [eqK2_ok g, Nat.eq_of_beq_eq_true h]; done)
      | (rw [Nat.eq_of_beq_eq_true h]; done)
      | (rename_i g; rw [Nat.eq_of_beq_eq_true g, Nat.eq_of_beq_eq_true h]; done)
      | (rename_i g1 _ g2 _ g3; rw [Nat.eq_of_beq_eq_true g1, Nat.eq_of_beq_eq_true g2, Nat.eq_of_beq_eq_true g3, eqI_ok h]; done)
      | (rename_i g1 _ g2; rw [Nat.eq_of_beq_eq_true g1, Nat.eq_of_beq_eq_true g2, eqI_ok h]; done)
      | (rename_i g1 _ g2; rw [Nat.eq_of_beq_eq_true g1, beqSVs_ok _ _ g2, beqSVs_ok _ _ h]; done)
      | (rw [beqSVs_ok _ _ h]; done)
      | (rename_i a b; have := listB_ok h; cases a with | mk x => cases b with | mk y => have e : x = y := Array.toList_inj.1 this; rw [e])
theorem beqSVs_ok : ∀ (l m : List SV), beqSVs l m = true → l = m
  | [], [], _ => rfl
  | a :: l, b :: m, h => by
    simp only [beqSVs] at h
    split at h
    · rename_i g; rw [beqSV_ok _ _ g, beqSVs_ok _ _ h]
    · cases h
  | [], _ :: _, h => by simp [beqSVs] at h
  | _ :: _, [], h => by simp [beqSVs] at h
end

inductive Commits : List Pend → St → St → Prop
  | nil {st : St} : Commits [] st st
  | cons {p : Pend} {l : List Pend} {st st1 st2 : St} (h : SetTo st p.n p.b st1) (k : Commits l st1 st2) : Commits (p :: l) st st2
def bitM (mask : Option Nat) (p : Pend) : Bool := match mask with
  | none => true
  | some m => m.testBit p.i
theorem commitK_ok {mask : Option Nat} : ∀ {l : List Pend} {st : St} {k : List Pend → St → R} {out}, commitK mask l st k = .ok out →
    ∃ st', k (l.filter fun p => !bitM mask p) st' = .ok out ∧ Commits (l.filter (bitM mask)) st st' := by
  intro l
  induction l with
  | nil => intro st k out h; exact ⟨st, h, .nil⟩
  | cons p l ih =>
    intro st k out h
    cases p with | mk i n b =>
    have hc : (bitM mask ⟨i, n, b⟩ = true ∧ (setK st n (some b) fun st => commitK mask l st k) = .ok out) ∨ (bitM mask ⟨i, n, b⟩ = false ∧ (commitK mask l st fun l' st => k (⟨i, n, b⟩ :: l') st) = .ok out) := by
      simp only [commitK] at h
      clear ih
      cases mask with
      | none => exact .inl ⟨rfl, h⟩
      | some m =>
        simp only [bitOf_eq] at h
        simp only [bitM]
        split at h
        · rename_i g; exact .inl ⟨g, h⟩
        · rename_i g; exact .inr ⟨g, h⟩
    rw [List.filter_cons, List.filter_cons]
    rcases hc with ⟨g, h⟩ | ⟨g, h⟩
    · rw [if_neg (by rw [g]; simp), if_pos g]
      obtain ⟨st1, h1, h2, h3⟩ := setK_ok h
      obtain ⟨st', h4, h5⟩ := ih h1
      exact ⟨st', h4, .cons ⟨h2, h3⟩ h5⟩
    · rw [if_pos (by rw [g]; rfl), if_neg (by rw [g]; simp)]
      obtain ⟨st', h4, h5⟩ := ih h
      exact ⟨st', h4, h5⟩

theorem recheckK_ok (hE : EOk P E ν) {self : Self} {mask : Nat} {st : St} : ∀ {l : List Seen} {k : Unit → R} {out}, (∀ s ∈ l, clsOf s.op = .load) → recheckK E nt self mask st l k = .ok out →
    k () = .ok out ∧ ∀ s ∈ l, mask.testBit s.i = false → XLoad P E ν base nt s.op s.a st s.v := by
  intro l
  induction l with
  | nil => intro k out _ h; exact ⟨h, fun s hs => nomatch hs⟩
  | cons s l ih =>
    intro k out hcl h
    cases s with | mk i op a v =>
    have hcl' : ∀ s ∈ l, clsOf s.op = .load := fun s hs => hcl s (.tail _ hs)
    simp only [recheckK, bitOf_eq] at h
    split at h
    · rename_i g
      obtain ⟨h1, h2⟩ := ih hcl' h
      refine ⟨h1, fun s hs hb => ?_⟩
      cases hs with
      | head => rw [g] at hb; cases hb
      | tail _ hs => exact h2 s hs hb
    · obtain ⟨v', h, hx⟩ := execC_load (base := base) hE (hcl _ (.head _)) h
      split at h
      · rename_i g
        have := beqSV_ok _ _ g; subst this
        obtain ⟨h1, h2⟩ := ih hcl' h
        refine ⟨h1, fun s hs hb => ?_⟩
        cases hs with
        | head => exact hx
        | tail _ hs => exact h2 s hs hb
      · cases h

theorem oldK_ok (hE : EOk P E ν) {self : Self} {op : Op} (hc : clsOf op = .load) {a : A} {v : SV} {next : Nat} : ∀ {n : Nat} {l : List (T AB)} {k : Unit → R} {out}, oldK E nt self op a v next n l k = .ok out →
    k () = .ok out ∧ ∀ q, q < n → ∃ h, l[q]? = some h ∧ XLoad P E ν base nt op a ⟨h, next⟩ v := by
  intro n
  induction n with
  | zero => intro l k out h; exact ⟨h, fun q hq => by omega⟩
  | succ n ih =>
    intro l k out h
    cases l with
    | nil => cases h
    | cons hp l =>
      simp only [oldK] at h
      obtain ⟨v', h, hx⟩ := execC_load (base := base) hE hc h
      split at h
      · rename_i g
        have := beqSV_ok _ _ g; subst this
        obtain ⟨h1, h2⟩ := ih h
        refine ⟨h1, fun q hq => ?_⟩
        cases q with
        | zero => exact ⟨hp, rfl, hx⟩
        | succ q => simpa using h2 q (by omega)
      · cases h
end Go.Ev
namespace Go.Ev
open Go
variable {ν : Nat → Int} {P : Program} {E : Env} {base : Nat} {nt : Nat}

def dstOf (all : List Oper) (j : Nat) : Option Tmp := (all[j]?).bind (·.dst)
/-- what a temporary holds when the operations of D have run: v i = the value of operation i -/
def IsVal (all : List Oper) (v : Nat → SV) (a0 : A) (D : Nat → Prop) (t : Tmp) (s : SV) : Prop :=
  (∃ i, D i ∧ dstOf all i = some t ∧ (∀ j, i < j → D j → dstOf all j ≠ some t) ∧ s = v i) ∨ ((∀ i, D i → dstOf all i ≠ some t) ∧ (flat a0.tmps)[t]? = some s)
theorem IsVal.congr {all : List Oper} {v : Nat → SV} {a0 : A} {D D' : Nat → Prop} {t : Tmp} {s : SV} (h : ∀ j, dstOf all j = some t → (D j ↔ D' j)) (k : IsVal all v a0 D t s) : IsVal all v a0 D' t s := by
  rcases k with ⟨i, h1, h2, h3, h4⟩ | ⟨h1, h2⟩
  · exact .inl ⟨i, (h i h2).1 h1, h2, fun j hj hD hd => h3 j hj ((h j hd).2 hD) hd, h4⟩
  · exact .inr ⟨fun i hD hd => h1 i ((h i hd).2 hD) hd, h2⟩
theorem IsVal.unique {all : List Oper} {v : Nat → SV} {a0 : A} {D : Nat → Prop} {t : Tmp} {s s' : SV} (h : IsVal all v a0 D t s) (k : IsVal all v a0 D t s') : s = s' := by
  rcases h with ⟨i, h1, h2, h3, h4⟩ | ⟨h1, h2⟩ <;> rcases k with ⟨j, k1, k2, k3, k4⟩ | ⟨k1, k2⟩
  · have : i = j := by
      rcases Nat.lt_trichotomy i j with c | c | c
      · exact absurd k2 (h3 j c k1)
      · exact c
      · exact absurd h2 (k3 i c h1)
    subst this; rw [h4, k4]
  · exact absurd h2 (k1 i h1)
  · exact absurd k2 (h1 j k1)
  · rw [h2] at k2; cases k2; rfl
/-- one operation more, no later writer of its temporary among those done -/
theorem IsVal.put {all : List Oper} {v : Nat → SV} {a0 : A} {D : Nat → Prop} {i : Nat} {d : Tmp} (hd : dstOf all i = some d) (hlast : ∀ j, i < j → D j → dstOf all j ≠ some d) : IsVal all v a0 (fun j => D j ∨ j = i) d (v i) :=
  .inl ⟨i, .inr rfl, hd, fun j hj hD => by
    rcases hD with h | h
    · exact hlast j hj h
    · omega, rfl⟩
theorem IsVal.other {all : List Oper} {v : Nat → SV} {a0 : A} {D : Nat → Prop} {i : Nat} {t : Tmp} {s : SV} (hd : dstOf all i ≠ some t) (h : IsVal all v a0 D t s) : IsVal all v a0 (fun j => D j ∨ j = i) t s :=
  h.congr fun j hj => ⟨.inl, fun g => by
    rcases g with g | g
    · exact g
    · subst g; exact absurd hj hd⟩

theorem memT_of {t : Tmp} {l : List Operand} (h : t ∈ tmpsOf l) : memT t l = true := by
  induction l with
  | nil => cases h
  | cons o l ih =>
    cases o with
    | tmp u =>
      simp only [tmpsOf] at h
      simp only [memT]
      cases h with
      | head => simp
      | tail _ h => split <;> first | rfl | exact ih h
    | const _ => simp only [tmpsOf] at h; simp only [memT]; exact ih h
    | global _ => simp only [tmpsOf] at h; simp only [memT]; exact ih h
    | func _ => simp only [tmpsOf] at h; simp only [memT]; exact ih h
theorem looksT_of {all : List Oper} {o : Oper} {t : Tmp} (h : t ∈ looksL all o) : looksT all o t = true := by
  unfold looksL at h
  unfold looksT
  split
  · rfl
  · rename_i hm
    split at h
    · rename_i u hu
      cases h with
      | head => simp
      | tail _ h => rw [memT_of h] at hm; cases hm
    · rw [memT_of h] at hm; cases hm
theorem clash_ok {all : List Oper} {x y : Oper} (h : clash all x y = false) :
    (∀ d, x.dst = some d → looksT all y d = false ∧ y.dst ≠ some d) ∧ ∀ e, y.dst = some e → looksT all x e = false := by
  unfold clash at h
  split at h
  · cases h
  · rename_i g
    refine ⟨fun d hd => ?_, fun e he => ?_⟩
    · rw [hd] at g
      dsimp only at g
      split at g
      · cases g
      · rename_i g1
        refine ⟨g1, fun he => ?_⟩
        rw [he] at g
        simp at g
    · rw [he] at h
      exact h

/-- what the static checks give, of the operations by their places -/
structure Stat (all : List Oper) (bs : List Nat) : Prop where
  masks : MaskOk all bs
  apart : ∀ (i j : Nat) (x y : Oper), i < j → all[i]? = some x → all[j]? = some y → ¬ Bf bs i j → clash all x y = false
  row : rowOk none 0 all bs = true

theorem ready_val {all : List Oper} {bs : List Nat} (hS : Stat all bs) {D : Nat → Prop} (_hlt : ∀ j, D j → j < all.length) (hD : Closed bs D) {i : Nat} {o : Oper} (hi : all[i]? = some o) (hn : ¬ D i) (hb : ∀ q, Bf bs q i → D q) {t : Tmp} (ht : t ∈ looksL all o) :
    ∀ j, dstOf all j = some t → (D j ↔ j < i) := by
  intro j hj
  obtain ⟨y, hy, hyd⟩ : ∃ y, all[j]? = some y ∧ y.dst = some t := by
    unfold dstOf at hj
    cases h : all[j]? with
    | none => rw [h] at hj; cases hj
    | some y => rw [h] at hj; exact ⟨y, rfl, hj⟩
  have hl := looksT_of ht
  constructor
  · intro hDj
    rcases Nat.lt_trichotomy j i with c | c | c
    · exact c
    · subst c; exact absurd hDj hn
    · have := (clash_ok (hS.apart i j o y c hi hy fun b => hn (hD j hDj i b))).2 t hyd
      rw [hl] at this; cases this
  · intro c
    by_cases hDj : D j
    · exact hDj
    · have := ((clash_ok (hS.apart j i y o c hy hi fun b => hDj (hb j b))).1 t hyd).1
      rw [hl] at this; cases this
theorem last_writer {all : List Oper} {bs : List Nat} (hS : Stat all bs) {D : Nat → Prop} (hD : Closed bs D) {i : Nat} {o : Oper} (hi : all[i]? = some o) (hn : ¬ D i) {d : Tmp} (hd : o.dst = some d) :
    ∀ j, i < j → D j → dstOf all j ≠ some d := by
  intro j hj hDj e
  unfold dstOf at e
  cases h : all[j]? with
  | none => rw [h] at e; cases e
  | some y =>
    rw [h] at e
    have e : y.dst = some d := e
    exact ((clash_ok (hS.apart i j o y hj hi h fun b => hn (hD j hDj i b))).1 d hd).2 e
end Go.Ev
namespace Go.Ev
open Go
variable {ν : Nat → Int} {P : Program} {E : Env} {base : Nat} {nt : Nat}

structure Rc where
  a1 : A
  w : Bool
  v : SV
  b : AB
  f : Nat → SV
def loudB (o : Oper) : Bool := match clsOf o.op with
  | .loud => true
  | _ => false
/-- how many loud ones stand ahead of place j -/
def ordL (all : List Oper) (j : Nat) : Nat := ((all.take j).filter loudB).length
/-- the loud operation of ordinal below q that has taken the float i in -/
def Com (all : List Oper) (bs : List Nat) (r : Nat → Rc) (q i : Nat) : Prop := ∃ j, isLoud all j ∧ (r j).w = true ∧ ordL all j < q ∧ Bf bs i j
def FW (all : List Oper) (r : Nat → Rc) (i : Nat) : Prop := ∃ o, all[i]? = some o ∧ clsOf o.op = .float ∧ (r i).w = true
def pendOf (n0 : Nat) (r : Nat → Rc) (i : Nat) : Pend := ⟨i, n0 + i, (r i).b⟩

/-- what a drawn region's run by the evaluator gives -/
structure Facts (P : Program) (E : Env) (ν : Nat → Int) (base nt : Nat) (all : List Oper) (bs : List Nat) (n0 : Nat) (a0 : A) (r : Nat → Rc) (S : Nat → St) : Prop where
  stat : Stat all bs
  next : ∀ q, q ≤ ordL all all.length → n0 + all.length ≤ (S q).next
  tm : ∀ (i : Nat) (o : Oper), all[i]? = some o → ∃ a, Only nt (looksL all o) a (r i).a1 ∧ a.marks = a0.marks ∧ ∀ t, t < nt → ∀ s, (flat a.tmps)[t]? = some s → IsVal all (fun i => (r i).v) a0 (fun j => j < i) t s
  want : ∀ (i : Nat) (o : Oper), all[i]? = some o → ∀ σ act, RepA ν σ nt (r i).a1 act → Region.wanted o (yielded all.toArray act.tmps) = (r i).w
  skip : ∀ i, (r i).w = false → (r i).v = undefS
  dst : ∀ (i : Nat) (o : Oper) d, all[i]? = some o → o.dst = some d → d < nt
  pure : ∀ (i : Nat) (o : Oper), all[i]? = some o → clsOf o.op = .pure → (r i).w = true → XPure P ν nt o.op (r i).a1 (r i).v
  load : ∀ (i : Nat) (o : Oper), all[i]? = some o → clsOf o.op = .load → (r i).w = true → ∀ q, q ≤ ordL all all.length → (∀ j, isLoud all j → Bf bs j i → ordL all j < q) → (∀ j, isLoud all j → ordL all j < q → ¬ Bf bs i j) → XLoad P E ν base nt o.op (r i).a1 (S q) (r i).v
  float : ∀ (i : Nat) (o : Oper), all[i]? = some o → clsOf o.op = .float → (r i).w = true → (r i).v = (r i).f (n0 + i) ∧ ∀ σ act w (o' : Oper), o'.op = o.op → RepA ν σ nt (r i).a1 act →
    ∃ obj z V, (execOp act.eval o').run P w = .ok (.value V) { w with heap := w.heap.push obj } ∧ (∀ τ, σ.le τ → (r i).b.Is P ν τ z obj) ∧ (∀ n (τ : Sg), τ n = some (w.heap.size, z) → Rep ν τ ((r i).f n) V)
  loud : ∀ (j : Nat) (o : Oper), all[j]? = some o → clsOf o.op = .loud → (r j).w = true → ∃ L st', Commits L (S (ordL all j)) st' ∧ (∀ p, p ∈ L ↔ ∃ i, FW all r i ∧ Bf bs i j ∧ ¬ Com all bs r (ordL all j) i ∧ p = pendOf n0 r i) ∧ L.Nodup ∧
    ∀ σ w act (o' : Oper) F n (K : Act → World → Prop) (Q : Exit → Act → World → Prop), o'.op = o.op → Sim P E ν base σ st' w → (∃ act1, RepA ν σ nt (r j).a1 act1 ∧ ∀ x ∈ o.op.operands, act1.eval x = act.eval x) → OkF F →
      (∀ σ' w' V, Goes P E ν base σ st' w σ' (S (ordL all j + 1)) w' → Rep ν σ' (r j).v V → K (act.put o'.dst V) w') → o'.wpIn F n P act w K Q
  rest : ∀ (j : Nat) (o : Oper), all[j]? = some o → clsOf o.op = .loud → (r j).w = false → S (ordL all j + 1) = S (ordL all j)

/-- the machine's state when the operations of D are done -/
structure DInv (P : Program) (E : Env) (ν : Nat → Int) (base nt : Nat) (all : List Oper) (bs : List Nat) (n0 : Nat) (a0 : A) (r : Nat → Rc) (S : Nat → St) (σ0 : Sg) (st0 : St) (w0 : World) (D : Nat → Prop) (q : Nat) (σ : Sg) (act : Act) (w : World) : Prop where
  lt : ∀ i, D i → i < all.length
  closed : Closed bs D
  loud : ∀ j, isLoud all j → (D j ↔ ordL all j < q)
  le : q ≤ ordL all all.length
  sim : Sim P E ν base σ (S q) w
  post : Post σ0 st0 w0 σ (S q) w
  size : act.tmps.size = nt
  defs : DefOk σ a0.marks act.defers
  vals : ∀ t, t < nt → ∃ s W, IsVal all (fun i => (r i).v) a0 D t s ∧ act.tmps[t]? = some W ∧ DRep ν σ s W
  loose : ∀ i, FW all r i → D i → ¬ Com all bs r q i → Loose P ν base w0.heap.size σ (S q) w (n0 + i) (r i).b
  apart : ∀ i k, FW all r i → D i → ¬ Com all bs r q i → FW all r k → D k → ¬ Com all bs r q k → i ≠ k → Apart σ (n0 + i) (n0 + k)
  none : ∀ i, i < all.length → ¬ (FW all r i ∧ D i) → σ (n0 + i) = none

variable {all : List Oper} {bs : List Nat} {n0 : Nat} {a0 : A} {r : Nat → Rc} {S : Nat → St} {σ0 : Sg} {st0 : St} {w0 : World}

/-- the looked-at temporaries of an operation that is ready -/
theorem DInv.act (hF : Facts P E ν base nt all bs n0 a0 r S) {D : Nat → Prop} {q : Nat} {σ : Sg} {act : Act} {w : World} (h : DInv P E ν base nt all bs n0 a0 r S σ0 st0 w0 D q σ act w) {i : Nat} {o : Oper} (hi : all[i]? = some o) (hn : ¬ D i) (hb : ∀ q, Bf bs q i → D q) :
    ∃ act1 : Act, RepA ν σ nt (r i).a1 act1 ∧ (∀ t ∈ looksL all o, act1.tmps[t]? = act.tmps[t]?) ∧ act1.defers = act.defers := by
  obtain ⟨a, h1, h2, h3⟩ := hF.tm i o hi
  refine h1.rep h.size (by rw [h2]; exact h.defs) fun t ht hlt s hs => ?_
  obtain ⟨_, s', e0, e1, e2⟩ := h1.on t ht
  rw [e2] at hs; cases hs
  have hv := (h3 t hlt s e1).congr fun j hj => ((ready_val hF.stat h.lt h.closed hi hn hb ht) j hj).symm
  obtain ⟨s2, W, k1, k2, k3⟩ := h.vals t hlt
  rw [k1.unique hv] at k3
  exact ⟨W, k2, k3.live e0⟩
/-- the temporaries behind it -/
theorem DInv.put (hF : Facts P E ν base nt all bs n0 a0 r S) {D : Nat → Prop} {q : Nat} {σ σ' : Sg} {act : Act} {w : World} (h : DInv P E ν base nt all bs n0 a0 r S σ0 st0 w0 D q σ act w) {i : Nat} {o : Oper} (hi : all[i]? = some o) (hn : ¬ D i) (hle : σ.le σ') {V : Value} (hV : Rep ν σ' (r i).v V) :
    (act.put o.dst V).tmps.size = nt ∧ DefOk σ' a0.marks (act.put o.dst V).defers ∧ ∀ t, t < nt → ∃ s W, IsVal all (fun i => (r i).v) a0 (fun j => D j ∨ j = i) t s ∧ (act.put o.dst V).tmps[t]? = some W ∧ DRep ν σ' s W := by
  have hdef : DefOk σ' a0.marks act.defers := by
    obtain ⟨Ds, d1, d2, d3⟩ := h.defs
    exact ⟨Ds, d1, d2, fun x m D e1 e2 => let ⟨z, hz⟩ := d3 x m D e1 e2; ⟨z, hle _ _ hz⟩⟩
  have hdo : dstOf all i = o.dst := by simp [dstOf, hi]
  cases hd : o.dst with
  | none =>
    refine ⟨h.size, hdef, fun t ht => ?_⟩
    obtain ⟨s, W, k1, k2, k3⟩ := h.vals t ht
    exact ⟨s, W, k1.other (by rw [hdo, hd]; simp), k2, k3.mono hle⟩
  | some d =>
    refine ⟨by simp [Act.put, h.size], hdef, fun t ht => ?_⟩
    by_cases e : t = d
    · subst e
      refine ⟨_, V, IsVal.put (by rw [hdo, hd]) (last_writer hF.stat h.closed hi hn hd), ?_, .inr hV⟩
      have : t < act.tmps.size := by rw [h.size]; exact ht
      simp [Act.put, this]
    · obtain ⟨s, W, k1, k2, k3⟩ := h.vals t ht
      refine ⟨s, W, k1.other (by rw [hdo, hd]; simp; exact fun e' => e e'.symm), ?_, k3.mono hle⟩
      simp [Act.put, Array.getElem?_setIfInBounds_ne (fun e' => e e'.symm), k2]
end Go.Ev
namespace Go.Ev
open Go
variable {ν : Nat → Int} {P : Program} {E : Env} {base : Nat} {nt : Nat}
variable {all : List Oper} {bs : List Nat} {n0 : Nat} {a0 : A} {r : Nat → Rc} {S : Nat → St} {σ0 : Sg} {st0 : St} {w0 : World}

theorem commits_ok {σ : Sg} {w : World} : ∀ {L : List Pend} {st st' : St}, Commits L st st' → Sim P E ν base σ st w → Post σ0 st0 w0 σ st w →
    (∀ p ∈ L, Loose P ν base w0.heap.size σ st w p.n p.b) → L.Pairwise (fun p p' => Apart σ p.n p'.n ∧ Apart σ p'.n p.n) →
    Sim P E ν base σ st' w ∧ Post σ0 st0 w0 σ st' w ∧ ∀ n b, Loose P ν base w0.heap.size σ st w n b → (∀ p ∈ L, Apart σ n p.n) → Loose P ν base w0.heap.size σ st' w n b := by
  intro L
  induction L with
  | nil => intro st st' h hs hp hl ha; cases h; exact ⟨hs, hp, fun n b h _ => h⟩
  | cons p L ih =>
    intro st st' h hs hp hl ha
    cases h with
    | cons hset hrest =>
      have hp0 := hl p (.head _)
      have ha' := List.pairwise_cons.1 ha
      obtain ⟨g1, g2, g3⟩ := ih hrest (sim_commit hs hp0 hset) (post_commit hp hp0 hset) (fun p' hp' => (hl p' (.tail _ hp')).commit hp0 hset (ha'.1 p' hp').2) ha'.2
      exact ⟨g1, g2, fun n b hn hap => g3 n b (hn.commit hp0 hset (hap p (.head _))) fun p' hp' => hap p' (.tail _ hp')⟩

theorem loud_none {i : Nat} {o : Oper} (hi : all[i]? = some o) (hc : clsOf o.op ≠ .loud) : ¬ isLoud all i := fun ⟨o', h1, h2⟩ => by
  rw [hi] at h1; cases h1; exact hc h2
theorem closed_put {D : Nat → Prop} (hD : Closed bs D) {i : Nat} (hb : ∀ q, Bf bs q i → D q) : Closed bs (fun j => D j ∨ j = i) := by
  intro j hj q hq
  rcases hj with h | h
  · exact .inl (hD j h q hq)
  · subst h; exact .inl (hb q hq)

/-- an operation that leaves the world as it is -/
theorem DInv.quiet (hF : Facts P E ν base nt all bs n0 a0 r S) {D : Nat → Prop} {q : Nat} {σ : Sg} {act : Act} {w : World} (h : DInv P E ν base nt all bs n0 a0 r S σ0 st0 w0 D q σ act w) {i : Nat} {o : Oper} (hi : all[i]? = some o) (hn : ¬ D i) (hb : ∀ q, Bf bs q i → D q)
    (hl : ¬ isLoud all i) (hfw : ¬ FW all r i) {V : Value} (hV : Rep ν σ (r i).v V) : DInv P E ν base nt all bs n0 a0 r S σ0 st0 w0 (fun j => D j ∨ j = i) q σ (act.put o.dst V) w := by
  obtain ⟨p1, p2, p3⟩ := h.put hF hi hn (Sg.le_refl σ) hV
  have ne : ∀ k, FW all r k → (D k ∨ k = i) → D k := fun k hk hD => hD.resolve_right fun e => hfw (e ▸ hk)
  refine ⟨fun j hj => ?_, closed_put h.closed hb, fun j hj => ?_, h.le, h.sim, h.post, p1, p2, p3, fun k hk hD hc => h.loose k hk (ne k hk hD) hc, fun k k' hk hD hc hk' hD' hc' => h.apart k k' hk (ne k hk hD) hc hk' (ne k' hk' hD') hc', fun k hk hno => h.none k hk fun g => hno ⟨g.1, .inl g.2⟩⟩
  · rcases hj with g | g
    · exact h.lt j g
    · subst g; exact (List.getElem?_eq_some_iff.1 hi).1
  · rw [← h.loud j hj]
    exact ⟨fun g => g.resolve_right fun e => hl (e ▸ hj), .inl⟩

/-- an allocation -/
theorem DInv.float (hF : Facts P E ν base nt all bs n0 a0 r S) (hn0 : st0.next ≤ n0) (_hbase : base ≤ w0.heap.size) {D : Nat → Prop} {q : Nat} {σ : Sg} {act : Act} {w : World} (h : DInv P E ν base nt all bs n0 a0 r S σ0 st0 w0 D q σ act w) {i : Nat} {o : Oper} (hi : all[i]? = some o) (hn : ¬ D i) (hb : ∀ q, Bf bs q i → D q)
    (hc : clsOf o.op = .float) (hw : (r i).w = true) {obj : Obj} {z : Nat} {V : Value} (hobj : ∀ τ, σ.le τ → (r i).b.Is P ν τ z obj) (hV : ∀ n (τ : Sg), τ n = some (w.heap.size, z) → Rep ν τ ((r i).f n) V) :
    DInv P E ν base nt all bs n0 a0 r S σ0 st0 w0 (fun j => D j ∨ j = i) q (σ.add (n0 + i) (w.heap.size, z)) (act.put o.dst V) { w with heap := w.heap.push obj } := by
  have hil : i < all.length := (List.getElem?_eq_some_iff.1 hi).1
  have hnone : σ (n0 + i) = Option.none := h.none i hil fun g => hn g.2
  have hle : σ.le (σ.add (n0 + i) (w.heap.size, z)) := Sg.le_add _ hnone
  have hnx := hF.next q h.le
  have hne : ∀ m c, getT (S q).heap m = some c → m ≠ n0 + i := fun m c hm e => by
    obtain ⟨_, _, _, h1, _⟩ := h.sim.blk m c hm
    rw [e, hnone] at h1; cases h1
  have hv := (hF.float i o hi hc hw).1
  obtain ⟨p1, p2, p3⟩ := h.put hF hi hn hle (V := V) (by rw [hv]; exact hV _ _ (Sg.add_self _ _ _))
  have hl : ¬ isLoud all i := loud_none hi (by rw [hc]; simp)
  have new : Loose P ν base w0.heap.size (σ.add (n0 + i) (w.heap.size, z)) (S q) { w with heap := w.heap.push obj } (n0 + i) (r i).b := by
    refine ⟨w.heap.size, z, obj, Sg.add_self _ _ _, h.post.size, h.sim.size, by simp, hobj _ hle, fun m c y hm e => ?_⟩
    rw [Sg.add_ne _ _ (hne m c hm)] at e
    obtain ⟨bl, y', o', g1, _, g3, _⟩ := h.sim.blk m c hm
    rw [g1] at e; cases e
    have := (Array.getElem?_eq_some_iff.1 g3).1
    omega
  have old : ∀ k, FW all r k → D k → ¬ Com all bs r q k → k ≠ i ∧ Loose P ν base w0.heap.size (σ.add (n0 + i) (w.heap.size, z)) (S q) { w with heap := w.heap.push obj } (n0 + k) (r k).b := fun k hk hD hcm =>
    ⟨fun e => hn (e ▸ hD), (h.loose k hk hD hcm).push hnone hne z obj⟩
  have inW : ∀ k, FW all r k → D k → ¬ Com all bs r q k → ∀ b y, σ (n0 + k) = some (b, y) → b < w.heap.size := fun k hk hD hcm b y e => by
    obtain ⟨bl, y', o', g1, _, _, g3, _⟩ := h.loose k hk hD hcm
    rw [g1] at e; cases e
    exact (Array.getElem?_eq_some_iff.1 g3).1
  refine ⟨fun j hj => ?_, closed_put h.closed hb, fun j hj => ?_, h.le, sim_loose h.sim (by omega) hnone z obj, post_loose h.post (by omega) hnone hne z obj, p1, p2, p3, fun k hk hD hcm => ?_, fun k k' hk hD hcm hk' hD' hcm' hkk => ?_, fun k hk hno => ?_⟩
  · rcases hj with g | g
    · exact h.lt j g
    · subst g; exact hil
  · rw [← h.loud j hj]
    exact ⟨fun g => g.resolve_right fun e => hl (e ▸ hj), .inl⟩
  · rcases hD with g | g
    · exact (old k hk g hcm).2
    · subst g; exact new
  · intro b y z' e1 e2
    rcases hD with g | g <;> rcases hD' with g' | g'
    · have n1 : n0 + k ≠ n0 + i := by have := (old k hk g hcm).1; omega
      have n2 : n0 + k' ≠ n0 + i := by have := (old k' hk' g' hcm').1; omega
      rw [Sg.add_ne _ _ n1] at e1; rw [Sg.add_ne _ _ n2] at e2
      exact h.apart k k' hk g hcm hk' g' hcm' hkk b y z' e1 e2
    · subst g'
      have n1 : n0 + k ≠ n0 + k' := by have := (old k hk g hcm).1; omega
      rw [Sg.add_ne _ _ n1] at e1; rw [Sg.add_self] at e2; cases e2
      have := inW k hk g hcm _ _ e1; omega
    · subst g
      have n1 : n0 + k' ≠ n0 + k := by have := (old k' hk' g' hcm').1; omega
      rw [Sg.add_ne _ _ n1] at e2; rw [Sg.add_self] at e1; cases e1
      have := inW k' hk' g' hcm' _ _ e2; omega
    · omega
  · have : k ≠ i := fun e => hno ⟨e ▸ ⟨o, hi, hc, hw⟩, .inr e⟩
    rw [Sg.add_ne _ _ (by omega)]
    exact h.none k hk fun g => hno ⟨g.1, .inl g.2⟩
end Go.Ev
namespace Go.Ev
open Go
variable {ν : Nat → Int} {P : Program} {E : Env} {base : Nat} {nt : Nat}
variable {all : List Oper} {bs : List Nat} {n0 : Nat} {a0 : A} {r : Nat → Rc} {S : Nat → St} {σ0 : Sg} {st0 : St} {w0 : World}

theorem loudB_iff {o : Oper} : loudB o = true ↔ clsOf o.op = .loud := by
  unfold loudB
  cases h : clsOf o.op <;> simp
theorem ordL_succ_loud {i : Nat} (h : isLoud all i) : ordL all (i + 1) = ordL all i + 1 := by
  obtain ⟨o, h1, h2⟩ := h
  unfold ordL
  rw [List.take_add_one, h1, List.filter_append]
  simp [loudB_iff.2 h2]
theorem ordL_succ {i : Nat} (h : ¬ isLoud all i) : ordL all (i + 1) = ordL all i := by
  unfold ordL
  rw [List.take_add_one, List.filter_append]
  cases h1 : all[i]? with
  | none => simp
  | some o =>
    have : loudB o = false := by
      cases hb : loudB o with
      | false => rfl
      | true => exact absurd ⟨o, h1, loudB_iff.1 hb⟩ h
    simp [this]
theorem ordL_mono {i j : Nat} (h : i ≤ j) : ordL all i ≤ ordL all j := by
  induction h with
  | refl => exact Nat.le_refl _
  | @step m _ ih =>
    by_cases g : isLoud all m
    · rw [Nat.succ_eq_add_one, ordL_succ_loud g]; omega
    · rw [Nat.succ_eq_add_one, ordL_succ g]; exact ih
theorem ordL_lt {i j : Nat} (hi : isLoud all i) (h : i < j) : ordL all i < ordL all j := by
  have := ordL_mono (all := all) (show i + 1 ≤ j from h)
  rw [ordL_succ_loud hi] at this; omega
theorem ordL_inj {i j : Nat} (hi : isLoud all i) (hj : isLoud all j) (h : ordL all i = ordL all j) : i = j := by
  rcases Nat.lt_trichotomy i j with c | c | c
  · have := ordL_lt hi c; omega
  · exact c
  · have := ordL_lt hj c; omega
theorem ordL_exists {q : Nat} : ∀ {i : Nat}, q < ordL all i → ∃ j, j < i ∧ isLoud all j ∧ ordL all j = q := by
  intro i
  induction i with
  | zero => intro h; simp [ordL] at h
  | succ i ih =>
    intro h
    by_cases g : isLoud all i
    · rw [ordL_succ_loud g] at h
      rcases Nat.lt_or_ge q (ordL all i) with c | c
      · obtain ⟨j, j1, j2⟩ := ih c; exact ⟨j, by omega, j2⟩
      · exact ⟨i, by omega, g, by omega⟩
    · rw [ordL_succ g] at h
      obtain ⟨j, j1, j2⟩ := ih h; exact ⟨j, by omega, j2⟩

/-- a loud operation that is ready is the next one -/
theorem DInv.ord (hF : Facts P E ν base nt all bs n0 a0 r S) {D : Nat → Prop} {q : Nat} {σ : Sg} {act : Act} {w : World} (h : DInv P E ν base nt all bs n0 a0 r S σ0 st0 w0 D q σ act w) {i : Nat} (hi : isLoud all i) (hn : ¬ D i) (hb : ∀ q, Bf bs q i → D q) : ordL all i = q := by
  have h1 : ¬ ordL all i < q := fun g => hn ((h.loud i hi).2 g)
  rcases Nat.lt_or_ge q (ordL all i) with c | c
  · obtain ⟨j, j1, j2, j3⟩ := ordL_exists c
    have hDj : D j := row_closed hF.stat.masks.len.symm hF.stat.row h.closed i hi j j1 j2 (.inr hb)
    have := (h.loud j j2).1 hDj
    omega
  · omega
theorem loud_put {D : Nat → Prop} {q i : Nat} (h : ∀ j, isLoud all j → (D j ↔ ordL all j < q)) (hi : isLoud all i) (hq : ordL all i = q) : ∀ j, isLoud all j → ((D j ∨ j = i) ↔ ordL all j < q + 1) := by
  intro j hj
  constructor
  · rintro (g | g)
    · have := (h j hj).1 g; omega
    · subst g; omega
  · intro g
    rcases Nat.lt_or_ge (ordL all j) q with c | c
    · exact .inl ((h j hj).2 c)
    · exact .inr (ordL_inj hj hi (by omega))
theorem Com.mono {q i : Nat} (h : Com all bs r q i) : Com all bs r (q + 1) i := by
  obtain ⟨j, a, b, c, d⟩ := h; exact ⟨j, a, b, by omega, d⟩

/-- a loud operation that is not wanted -/
theorem DInv.rest (hF : Facts P E ν base nt all bs n0 a0 r S) {D : Nat → Prop} {q : Nat} {σ : Sg} {act : Act} {w : World} (h : DInv P E ν base nt all bs n0 a0 r S σ0 st0 w0 D q σ act w) {i : Nat} {o : Oper} (hi : all[i]? = some o) (hn : ¬ D i) (hb : ∀ q, Bf bs q i → D q)
    (hc : clsOf o.op = .loud) (hw : (r i).w = false) : DInv P E ν base nt all bs n0 a0 r S σ0 st0 w0 (fun j => D j ∨ j = i) (q + 1) σ (act.put o.dst undef) w := by
  have hl : isLoud all i := ⟨o, hi, hc⟩
  have hq := h.ord hF hl hn hb
  have hil : i < all.length := (List.getElem?_eq_some_iff.1 hi).1
  have hS := hF.rest i o hi hc hw
  rw [hq] at hS
  have hfw : ¬ FW all r i := fun ⟨o', g1, g2, _⟩ => by rw [hi] at g1; cases g1; rw [hc] at g2; cases g2
  have ne : ∀ k, FW all r k → (D k ∨ k = i) → D k := fun k hk hD => hD.resolve_right fun e => hfw (e ▸ hk)
  obtain ⟨p1, p2, p3⟩ := h.put hF hi hn (Sg.le_refl σ) (V := undef) (by rw [hF.skip i hw]; exact undef_rep σ)
  refine ⟨fun j hj => ?_, closed_put h.closed hb, loud_put h.loud hl hq, by have := ordL_lt hl hil; omega, by rw [hS]; exact h.sim, by rw [hS]; exact h.post, p1, p2, p3, fun k hk hD hcm => ?_, fun k k' hk hD hcm hk' hD' hcm' => ?_, fun k hk hno => h.none k hk fun g => hno ⟨g.1, .inl g.2⟩⟩
  · rcases hj with g | g
    · exact h.lt j g
    · subst g; exact hil
  · rw [hS]; exact h.loose k hk (ne k hk hD) fun g => hcm g.mono
  · exact h.apart k k' hk (ne k hk hD) (fun g => hcm g.mono) hk' (ne k' hk' hD') (fun g => hcm' g.mono)
end Go.Ev
namespace Go.Ev
open Go
variable {ν : Nat → Int} {P : Program} {E : Env} {base : Nat} {nt : Nat}
variable {all : List Oper} {bs : List Nat} {n0 : Nat} {a0 : A} {r : Nat → Rc} {S : Nat → St} {σ0 : Sg} {st0 : St} {w0 : World}

theorem pairwise_of {α : Type} {Rl : α → α → Prop} : ∀ {L : List α}, L.Nodup → (∀ x ∈ L, ∀ y ∈ L, x ≠ y → Rl x y) → L.Pairwise Rl := by
  intro L
  induction L with
  | nil => intro _ _; exact .nil
  | cons a L ih =>
    intro hn h
    have hn := List.nodup_cons.1 hn
    exact List.pairwise_cons.2 ⟨fun y hy => h a (.head _) y (.tail _ hy) fun e => hn.1 (e ▸ hy), ih hn.2 fun x hx y hy => h x (.tail _ hx) y (.tail _ hy)⟩

/-- a loud operation -/
theorem DInv.loudStep (hF : Facts P E ν base nt all bs n0 a0 r S) (_hn0 : st0.next ≤ n0) {D : Nat → Prop} {q : Nat} {σ : Sg} {act : Act} {w : World} (h : DInv P E ν base nt all bs n0 a0 r S σ0 st0 w0 D q σ act w) {i : Nat} {o : Oper} (hi : all[i]? = some o) (hn : ¬ D i) (hb : ∀ q, Bf bs q i → D q)
    (hc : clsOf o.op = .loud) (hw : (r i).w = true) {F : Fence} {n : Nat} {K : Act → World → Prop} {Q : Exit → Act → World → Prop} (hOk : OkF F)
    (hK : ∀ σ' w' V, DInv P E ν base nt all bs n0 a0 r S σ0 st0 w0 (fun j => D j ∨ j = i) (q + 1) σ' (act.put o.dst V) w' → K (act.put o.dst V) w') : o.wpIn F n P act w K Q := by
  have hl : isLoud all i := ⟨o, hi, hc⟩
  have hq := h.ord hF hl hn hb
  have hil : i < all.length := (List.getElem?_eq_some_iff.1 hi).1
  obtain ⟨L, st', hcm, hL, hnd, hx⟩ := hF.loud i o hi hc hw
  rw [hq] at hcm hL hx
  have hfw : ¬ FW all r i := fun ⟨o', g1, g2, _⟩ => by rw [hi] at g1; cases g1; rw [hc] at g2; cases g2
  have ne : ∀ k, FW all r k → (D k ∨ k = i) → D k := fun k hk hD => hD.resolve_right fun e => hfw (e ▸ hk)
  obtain ⟨act1, ha1, ha2, ha3⟩ := h.act hF hi hn hb
  obtain ⟨c1, c2, c3⟩ := commits_ok hcm h.sim h.post (fun p hp => by
      obtain ⟨k, k1, k2, k3, rfl⟩ := (hL p).1 hp
      exact h.loose k k1 (hb k k2) k3)
    (pairwise_of hnd fun x hx y hy hxy => by
      obtain ⟨k, k1, k2, k3, rfl⟩ := (hL x).1 hx
      obtain ⟨k', k1', k2', k3', rfl⟩ := (hL y).1 hy
      have hne : k ≠ k' := fun e => hxy (by rw [e])
      exact ⟨h.apart k k' k1 (hb k k2) k3 k1' (hb k' k2') k3' hne, h.apart k' k k1' (hb k' k2') k3' k1 (hb k k2) k3 hne.symm⟩)
  have hnext : n0 + all.length ≤ st'.next := by
    have h1 := hF.next q h.le
    have : ∀ {L : List Pend} {s s' : St}, Commits L s s' → s'.next = s.next := by
      intro L
      induction L with
      | nil => intro s s' g; cases g; rfl
      | cons p L ih => intro s s' g; cases g with | cons g1 g2 => rw [ih g2, g1.1]
    rw [this hcm]; exact h1
  refine hx σ w act o F n K Q rfl c1 ⟨act1, ha1, eval_agree ha2⟩ hOk (fun σ' w' V go hV => hK σ' w' V ?_)
  have hle := go.le c1
  obtain ⟨p1, p2, p3⟩ := h.put hF hi hn hle hV
  -- the floats that are still loose
  have still : ∀ k, FW all r k → D k → ¬ Com all bs r (q + 1) k → ¬ Com all bs r q k ∧ (∀ p ∈ L, Apart σ (n0 + k) p.n) := fun k hk hD hno =>
    ⟨fun g => hno g.mono, fun p hp => by
      obtain ⟨k', k1, k2, k3, rfl⟩ := (hL p).1 hp
      refine h.apart k k' hk hD (fun g => hno g.mono) k1 (hb k' k2) k3 fun e => hno ⟨i, hl, hw, by omega, e ▸ k2⟩⟩
  have same : ∀ k, k < all.length → σ' (n0 + k) = σ (n0 + k) := fun k hk => go.1.same _ (by omega)
  refine ⟨fun j hj => ?_, closed_put h.closed hb, loud_put h.loud hl hq, by have := ordL_lt hl hil; omega, go.2, c2.trans go.1, p1, p2, p3, fun k hk hD hcm' => ?_, fun k k' hk hD hcm' hk' hD' hcm'' hkk => ?_, fun k hk hno => ?_⟩
  · rcases hj with g | g
    · exact h.lt j g
    · subst g; exact hil
  · have hDk := ne k hk hD
    obtain ⟨s1, s2⟩ := still k hk hDk hcm'
    exact (c3 _ _ (h.loose k hk hDk s1) s2).goes c1 go
  · have hDk := ne k hk hD
    have hDk' := ne k' hk' hD'
    intro b y z e1 e2
    rw [same k (h.lt k hDk)] at e1
    rw [same k' (h.lt k' hDk')] at e2
    exact h.apart k k' hk hDk (still k hk hDk hcm').1 hk' hDk' (still k' hk' hDk' hcm'').1 hkk b y z e1 e2
  · rw [same k hk]
    exact h.none k hk fun g => hno ⟨g.1, .inl g.2⟩
end Go.Ev
namespace Go.Ev
open Go
variable {ν : Nat → Int} {P : Program} {E : Env} {base : Nat} {nt : Nat}
variable {all : List Oper} {bs : List Nat} {n0 : Nat} {a0 : A} {r : Nat → Rc} {S : Nat → St} {σ0 : Sg} {st0 : St} {w0 : World}

theorem wpIn_value {o : Oper} {F : Fence} (hOk : OkF F) {n : Nat} {act : Act} {w w' : World} {K : Act → World → Prop} {Q : Exit → Act → World → Prop} {V : Value} (hd : ∀ c, o.op ≠ .defer c) (h : (execOp act.eval o).run P w = .ok (.value V) w') (hK : K (act.put o.dst V) w') : o.wpIn F n P act w K Q := by
  refine ⟨fun f _ => hOk.fn f, ?_⟩
  rw [Oper.semAt_eq _ _ _ hd, h]
  exact hK

theorem DInv.step (hF : Facts P E ν base nt all bs n0 a0 r S) (hn0 : st0.next ≤ n0) (hbase : base ≤ w0.heap.size) {D : Nat → Prop} {q : Nat} {σ : Sg} {act : Act} {w : World} (h : DInv P E ν base nt all bs n0 a0 r S σ0 st0 w0 D q σ act w) {i : Nat} {o : Oper} (hi : all[i]? = some o) (hn : ¬ D i) (hb : ∀ q, Bf bs q i → D q)
    {F : Fence} {n : Nat} {K : Act → World → Prop} {Q : Exit → Act → World → Prop} (hOk : OkF F)
    (hK : ∀ q' σ' act' w', DInv P E ν base nt all bs n0 a0 r S σ0 st0 w0 (fun j => D j ∨ j = i) q' σ' act' w' → K act' w') : wpOpIn F n P all.toArray Q i K act w := by
  obtain ⟨act1, ha1, ha2, ha3⟩ := h.act hF hi hn hb
  have hwant : Region.wanted o (yielded all.toArray act.tmps) = (r i).w := by rw [← wanted_agree ha2]; exact hF.want i o hi σ act1 ha1
  unfold wpOpIn
  simp only [List.getElem?_toArray, hi, hwant]
  cases hw : (r i).w with
  | false =>
    simp only [Bool.false_eq_true, if_false]
    refine ⟨fun f _ => hOk.fn f, ?_⟩
    by_cases hc : clsOf o.op = .loud
    · exact hK _ _ _ _ (h.rest hF hi hn hb hc hw)
    · exact hK _ _ _ _ (h.quiet hF hi hn hb (loud_none hi hc) (fun ⟨o', g1, _, g3⟩ => by rw [hw] at g3; cases g3) (by rw [hF.skip i hw]; exact undef_rep σ))
  | true =>
    simp only [if_true]
    have hcong : ∀ (hs : clsOf o.op ≠ .loud), execOp act.eval o = execOp act1.eval o := fun hs =>
      execOp_congr o (fun cs b e => hs (by rw [e]; rfl)) fun x hx => (eval_agree ha2 x hx).symm
    have hdef : clsOf o.op ≠ .loud → ∀ c, o.op ≠ .defer c := fun hs c e => hs (by rw [e]; rfl)
    have quiet : clsOf o.op ≠ .loud → clsOf o.op ≠ .float → (∃ V, (execOp act1.eval o).run P w = .ok (.value V) w ∧ Rep ν σ (r i).v V) → o.wpIn F n P act w K Q := by
      rintro c1 c2 ⟨V, g1, g2⟩
      refine wpIn_value hOk (hdef c1) (by rw [hcong c1]; exact g1) (hK _ _ _ _ (h.quiet hF hi hn hb (loud_none hi c1) (fun ⟨o', e1, e2, _⟩ => ?_) g2))
      rw [hi] at e1; cases e1; exact c2 e2
    cases hc : clsOf o.op with
    | pure => exact quiet (by rw [hc]; simp) (by rw [hc]; simp) (hF.pure i o hi hc hw σ w act1 o rfl ha1)
    | load =>
      refine quiet (by rw [hc]; simp) (by rw [hc]; simp) (hF.load i o hi hc hw q h.le (fun j hj hbf => (h.loud j hj).1 (hb j hbf)) (fun j hj hlt hbf => hn (h.closed j ((h.loud j hj).2 hlt) i hbf)) σ w act1 o rfl h.sim ha1)
    | float =>
      obtain ⟨obj, z, V, g1, g2, g3⟩ := (hF.float i o hi hc hw).2 σ act1 w o rfl ha1
      exact wpIn_value hOk (hdef (by rw [hc]; simp)) (by rw [hcong (by rw [hc]; simp)]; exact g1) (hK _ _ _ _ (h.float hF hn0 hbase hi hn hb hc hw g2 g3))
    | loud => exact h.loudStep hF hn0 hi hn hb hc hw hOk (fun σ' w' V g => hK _ _ _ _ g)

def DoneB (all : List Oper) (listed : Array Bool) (i : Nat) : Prop := i < all.length ∧ listed.getD i false = true

theorem any_ok (hF : Facts P E ν base nt all bs n0 a0 r S) (hn0 : st0.next ≤ n0) (hbase : base ≤ w0.heap.size) {F : Fence} {n : Nat} {Q : Exit → Act → World → Prop} (hOk : OkF F)
    (hQ : ∀ D q σ act w, (∀ i, i < all.length → D i) → DInv P E ν base nt all bs n0 a0 r S σ0 st0 w0 D q σ act w → Q .normal act w) :
    ∀ (fuel : Nat) (listed : Array Bool) (q : Nat) (σ : Sg) (act : Act) (w : World), listed.size = all.length → ((List.range all.length).filter fun i => !listed.getD i false).length ≤ fuel →
      DInv P E ν base nt all bs n0 a0 r S σ0 st0 w0 (DoneB all listed) q σ act w → wpAnyIn F n P .any all.toArray Q fuel listed act w := by
  have edges : ∀ e : Edge, Region.binds .any e = bindsAny e := fun e => by
    cases e with | mk on g => cases g <;> rfl
  have ready_of : ∀ (listed : Array Bool) (i : Nat), listed.size = all.length → i ∈ Region.ready .any all.toArray listed → ∃ o, all[i]? = some o ∧ ¬ DoneB all listed i ∧ ∀ e ∈ o.after.toList, bindsAny e = true → DoneB all listed e.on := by
    intro listed i hsz hi
    obtain ⟨h1, o, h2, h3⟩ := mem_ready.1 hi
    rw [List.getElem?_toArray] at h2
    have hlt := (List.getElem?_eq_some_iff.1 h2).1
    refine ⟨o, h2, fun g => ?_, fun e he hb => ?_⟩
    · have := g.2
      simp only [Array.getD_eq_getD_getElem?] at h1 this
      cases hq : listed[i]? with
      | none => rw [hq] at this; simp at this
      | some b => rw [hq] at h1 this; simp at h1 this; rw [h1] at this; cases this
    · have := h3 e (by simpa using he) (by rw [edges]; exact hb)
      exact ⟨Nat.lt_trans (hF.stat.masks.edge i o h2 e he hb) hlt, this⟩
  have closedBf : ∀ (listed : Array Bool) (i : Nat) (o : Oper), Closed bs (DoneB all listed) → all[i]? = some o → (∀ e ∈ o.after.toList, bindsAny e = true → DoneB all listed e.on) → ∀ q, Bf bs q i → DoneB all listed q := by
    intro listed i o hcl hi he q hq
    obtain ⟨e, e1, e2, e3⟩ := hF.stat.masks.bit i o hi q hq
    rcases e3 with rfl | e3
    · exact he e e1 e2
    · exact hcl _ (he e e1 e2) q e3
  have none_ready : ∀ (listed : Array Bool), listed.size = all.length → Region.ready .any all.toArray listed = [] → ∀ i, i < all.length → DoneB all listed i := by
    intro listed hsz hr i
    induction i using Nat.strongRecOn with
    | _ i ih =>
      intro hlt
      refine Classical.byContradiction fun hno => ?_
      have hmem : i ∈ Region.ready .any all.toArray listed := by
        refine mem_ready.2 ⟨?_, all[i], by simp [hlt], fun e he hb => ?_⟩
        · simp only [DoneB, hlt, true_and, Array.getD_eq_getD_getElem?] at hno ⊢
          have : i < listed.size := by omega
          simp [this] at hno ⊢
          exact hno
        · have hon := hF.stat.masks.edge i all[i] (by simp [hlt]) e (by simpa using he) (by rw [← edges]; exact hb)
          exact (ih e.on hon (by omega)).2
      rw [hr] at hmem; cases hmem
  intro fuel
  induction fuel with
  | zero =>
    intro listed q σ act w hsz hcnt h
    have hall : ∀ i, i < all.length → DoneB all listed i := fun i hi => ⟨hi, by
      have h0 := List.length_eq_zero_iff.1 (Nat.le_zero.1 hcnt)
      have := List.filter_eq_nil_iff.1 h0 i (List.mem_range.2 hi)
      simpa using this⟩
    refine ⟨?_, hQ _ q σ act w hall h⟩
    cases hr : Region.ready .any all.toArray listed with
    | nil => rfl
    | cons i l =>
      obtain ⟨o, ho, hn, _⟩ := ready_of listed i hsz (by rw [hr]; exact .head _)
      exact absurd (hall i (List.getElem?_eq_some_iff.1 ho).1) hn
  | succ fuel ih =>
    intro listed q σ act w hsz hcnt h
    refine ⟨fun hr => hQ _ q σ act w (none_ready listed hsz hr) h, fun i hi => ?_⟩
    obtain ⟨o, ho, hn, he⟩ := ready_of listed i hsz hi
    refine h.step hF hn0 hbase ho hn (closedBf listed i o h.closed ho he) hOk fun q' σ' act' w' h' => ?_
    have hil : i < all.length := (List.getElem?_eq_some_iff.1 ho).1
    have hset : ∀ j, (listed.setIfInBounds i true).getD j false = if j = i then true else listed.getD j false := fun j => by
      by_cases e : j = i
      · subst e
        have : j < listed.size := by omega
        simp [this]
      · simp [e, Array.getElem?_setIfInBounds_ne (fun e' => e e'.symm)]
    have hD : (fun j => DoneB all listed j ∨ j = i) = DoneB all (listed.setIfInBounds i true) := by
      funext j
      apply propext
      simp only [DoneB, hset]
      by_cases e : j = i
      · subst e; simp [hil]
      · simp [e]
    rw [hD] at h'
    refine ih _ q' σ' act' w' (by simp [hsz]) ?_ h'
    have hf : ((List.range all.length).filter fun j => !(listed.setIfInBounds i true).getD j false) = ((List.range all.length).filter fun j => !listed.getD j false).filter fun j => decide (j ≠ i) := by
      rw [List.filter_filter]
      congr 1
      funext j
      rw [hset]
      by_cases e : j = i
      · simp [e]
      · simp [e]
    have hmem : i ∈ (List.range all.length).filter fun j => !listed.getD j false := by
      refine List.mem_filter.2 ⟨List.mem_range.2 hil, ?_⟩
      cases hq : listed.getD i false with
      | false => rfl
      | true => exact absurd ⟨hil, hq⟩ hn
    rw [hf]
    have hlt : (((List.range all.length).filter fun j => !listed.getD j false).filter fun j => decide (j ≠ i)).length < ((List.range all.length).filter fun j => !listed.getD j false).length :=
      List.length_filter_lt_length_iff_exists.2 ⟨i, hmem, by simp⟩
    omega
end Go.Ev
namespace Go.Ev
open Go
variable {ν : Nat → Int} {P : Program} {E : Env} {base : Nat} {nt : Nat}
variable {all : List Oper} {bs : List Nat} {n0 : Nat} {a0 : A} {r : Nat → Rc} {S : Nat → St}

theorem machine_ok (hE : EOk P E ν) (hF : Facts P E ν base nt all bs n0 a0 r S) {h0 : T AB} (hS0 : S 0 = ⟨h0, n0 + all.length⟩) {stF : St} {aF : A}
    (hfin : ∃ L, Commits L (S (ordL all all.length)) stF ∧ (∀ p, p ∈ L ↔ ∃ i, FW all r i ∧ ¬ Com all bs r (ordL all all.length) i ∧ p = pendOf n0 r i) ∧ L.Nodup)
    (hmF : aF.marks = a0.marks) (haF : ∀ t, t < nt → ∃ s, (flat aF.tmps)[t]? = some s ∧ IsVal all (fun i => (r i).v) a0 (fun j => j < all.length) t s) :
    ∀ σ w act F n (Q : Exit → Act → World → Prop) id, Sim P E ν base σ ⟨h0, n0⟩ w → RepA ν σ nt a0 act → OkF F →
      (∀ σ' w' act', Goes P E ν base σ ⟨h0, n0⟩ w σ' stF w' → RepA ν σ' nt aF act' → Q .normal act' w') → (Code.region id all.toArray true).wpIn F n P Q act w := by
  intro σ w act F n Q id hs ha hOk hQ
  refine wpIn_region_any hE.mixed ?_
  have hno : ∀ i, ¬ DoneB all (Array.replicate all.toArray.size false) i := fun i ⟨hi, g⟩ => by
    simp [hi] at g
  refine any_ok (σ0 := σ) (st0 := ⟨h0, n0⟩) (w0 := w) hF (Nat.le_refl _) hs.size hOk (fun D q σ' act' w' hall h => ?_) _ _ 0 σ act _ (by simp) (by
    simp only [List.size_toArray]
    exact Nat.le_trans (List.length_filter_le _ _) (by simp)) ?_
  · obtain ⟨L, hcm, hL, hnd⟩ := hfin
    have hq : q = ordL all all.length := by
      rcases Nat.lt_or_ge q (ordL all all.length) with c | c
      · obtain ⟨j, j1, j2, j3⟩ := ordL_exists c
        have := (h.loud j j2).1 (hall j j1)
        omega
      · have := h.le; omega
    subst hq
    have fwl : ∀ k, FW all r k → k < all.length := fun k ⟨o, g, _⟩ => (List.getElem?_eq_some_iff.1 g).1
    obtain ⟨c1, c2, _⟩ := commits_ok hcm h.sim h.post (fun p hp => by
        obtain ⟨k, k1, k3, rfl⟩ := (hL p).1 hp
        exact h.loose k k1 (hall k (fwl k k1)) k3)
      (pairwise_of hnd fun x hx y hy hxy => by
        obtain ⟨k, k1, k3, rfl⟩ := (hL x).1 hx
        obtain ⟨k', k1', k3', rfl⟩ := (hL y).1 hy
        have hne : k ≠ k' := fun e => hxy (by rw [e])
        exact ⟨h.apart k k' k1 (hall k (fwl k k1)) k3 k1' (hall k' (fwl k' k1')) k3' hne, h.apart k' k k1' (hall k' (fwl k' k1')) k3' k1 (hall k (fwl k k1)) k3 hne.symm⟩)
    refine hQ σ' w' act' ⟨c2, c1⟩ ⟨⟨h.size, fun t ht => ?_⟩, by rw [hmF]; exact h.defs⟩
    obtain ⟨s, g1, g2⟩ := haF t ht
    obtain ⟨s', W, k1, k2, k3⟩ := h.vals t ht
    have := (k1.congr (D' := fun j => j < all.length) fun j _ => ⟨h.lt j, hall j⟩).unique g2
    subst this
    exact ⟨s', W, g1, k2, k3⟩
  · refine ⟨fun i hi => hi.1, fun j hj => absurd hj (hno j), fun j hj => ⟨fun g => absurd g (hno j), fun g => by omega⟩, Nat.zero_le _, ?_, ?_, ha.tmps.1, ha.defers, fun t ht => ?_, fun i _ g => absurd g (hno i), fun i k _ g => absurd g (hno i), fun i hi _ => hs.fresh _ (by show n0 ≤ n0 + i; omega)⟩
    · rw [hS0]; exact (hs.next_mono (by omega)).drawn _
    · rw [hS0]
      exact ⟨fun _ _ => rfl, by show n0 ≤ n0 + all.length; omega, Nat.le_refl _, fun _ _ _ => rfl, fun m c b y hm e => .inl ⟨m, c, y, hm, e⟩, rfl, rfl, rfl⟩
    · obtain ⟨s, W, g1, g2, g3⟩ := ha.tmps.2 t ht
      exact ⟨s, W, .inr ⟨fun i g => absurd g (hno i), g1⟩, g2, g3⟩
end Go.Ev
namespace Go.Ev
open Go
variable {ν : Nat → Int} {P : Program} {E : Env} {base : Nat} {nt : Nat}

/-- the evaluator's run of a drawn region, i operations in: r and S are known below i and up to S's m -/
structure Hist (P : Program) (E : Env) (ν : Nat → Int) (base nt : Nat) (all : List Oper) (bs : List Nat) (n0 : Nat) (a0 : A) (r : Nat → Rc) (S : Nat → St) (i m : Nat) (a : A) (st : St) (pend : List Pend) (seen : List Seen) (snaps : List (T AB)) : Prop where
  le : i ≤ all.length
  ord : m = ordL all i
  last : S m = st
  next : ∀ q, q ≤ m → n0 + all.length ≤ (S q).next
  mono : ∀ q, q ≤ m → (S q).next ≤ st.next
  snapsLen : snaps.length = m
  snaps : ∀ x, x < m → snaps[x]? = some (S (m - 1 - x)).heap
  marks : a.marks = a0.marks
  vals : ∀ t, t < nt → ∃ s, (flat a.tmps)[t]? = some s ∧ IsVal all (fun i => (r i).v) a0 (fun j => j < i) t s
  nodup : pend.Nodup
  pend : ∀ p, p ∈ pend ↔ ∃ k, k < i ∧ FW all r k ∧ ¬ Com all bs r m k ∧ p = pendOf n0 r k
  seenLoad : ∀ s ∈ seen, clsOf s.op = .load
  seen : ∀ (k : Nat) (o : Oper), k < i → all[k]? = some o → clsOf o.op = .load → (r k).w = true → (⟨k, o.op, (r k).a1, (r k).v⟩ : Seen) ∈ seen
  tm : ∀ (k : Nat) (o : Oper), k < i → all[k]? = some o → ∃ a, Only nt (looksL all o) a (r k).a1 ∧ a.marks = a0.marks ∧ ∀ t, t < nt → ∀ s, (flat a.tmps)[t]? = some s → IsVal all (fun i => (r i).v) a0 (fun j => j < k) t s
  want : ∀ (k : Nat) (o : Oper), k < i → all[k]? = some o → ∀ σ act, RepA ν σ nt (r k).a1 act → Region.wanted o (yielded all.toArray act.tmps) = (r k).w
  skip : ∀ k, k < i → (r k).w = false → (r k).v = undefS
  dst : ∀ (k : Nat) (o : Oper) d, k < i → all[k]? = some o → o.dst = some d → d < nt
  pure : ∀ (k : Nat) (o : Oper), k < i → all[k]? = some o → clsOf o.op = .pure → (r k).w = true → XPure P ν nt o.op (r k).a1 (r k).v
  load : ∀ (k : Nat) (o : Oper), k < i → all[k]? = some o → clsOf o.op = .load → (r k).w = true → ∀ q, q ≤ m → (∀ j, isLoud all j → Bf bs j k → ordL all j < q) → (∀ j, isLoud all j → ordL all j < q → ¬ Bf bs k j) → XLoad P E ν base nt o.op (r k).a1 (S q) (r k).v
  float : ∀ (k : Nat) (o : Oper), k < i → all[k]? = some o → clsOf o.op = .float → (r k).w = true → (r k).v = (r k).f (n0 + k) ∧ ∀ σ act w (o' : Oper), o'.op = o.op → RepA ν σ nt (r k).a1 act →
    ∃ obj z V, (execOp act.eval o').run P w = .ok (.value V) { w with heap := w.heap.push obj } ∧ (∀ τ, σ.le τ → (r k).b.Is P ν τ z obj) ∧ (∀ n (τ : Sg), τ n = some (w.heap.size, z) → Rep ν τ ((r k).f n) V)
  loud : ∀ (j : Nat) (o : Oper), j < i → all[j]? = some o → clsOf o.op = .loud → (r j).w = true → ∃ L st', Commits L (S (ordL all j)) st' ∧ (∀ p, p ∈ L ↔ ∃ k, FW all r k ∧ Bf bs k j ∧ ¬ Com all bs r (ordL all j) k ∧ p = pendOf n0 r k) ∧ L.Nodup ∧
    ∀ σ w act (o' : Oper) F n (K : Act → World → Prop) (Q : Exit → Act → World → Prop), o'.op = o.op → Sim P E ν base σ st' w → (∃ act1, RepA ν σ nt (r j).a1 act1 ∧ ∀ x ∈ o.op.operands, act1.eval x = act.eval x) → OkF F →
      (∀ σ' w' V, Goes P E ν base σ st' w σ' (S (ordL all j + 1)) w' → Rep ν σ' (r j).v V → K (act.put o'.dst V) w') → o'.wpIn F n P act w K Q
  rest : ∀ (j : Nat) (o : Oper), j < i → all[j]? = some o → clsOf o.op = .loud → (r j).w = false → S (ordL all j + 1) = S (ordL all j)

theorem Hist.facts {all : List Oper} {bs : List Nat} {n0 : Nat} {a0 : A} {r : Nat → Rc} {S : Nat → St} {m : Nat} {a : A} {st : St} {pend : List Pend} {seen : List Seen} {snaps : List (T AB)} (hS : Stat all bs) (hsk : ∀ k, all.length ≤ k → (r k).w = false → (r k).v = undefS)
    (h : Hist P E ν base nt all bs n0 a0 r S all.length m a st pend seen snaps) : Facts P E ν base nt all bs n0 a0 r S := by
  have lt : ∀ (k : Nat) (o : Oper), all[k]? = some o → k < all.length := fun k o g => (List.getElem?_eq_some_iff.1 g).1
  have hm := h.ord
  exact ⟨hS, fun q hq => h.next q (by omega), fun k o g => h.tm k o (lt k o g) g, fun k o g => h.want k o (lt k o g) g, fun k hw => by
      rcases Nat.lt_or_ge k all.length with c | c
      · exact h.skip k c hw
      · exact hsk k c hw, fun k o d g => h.dst k o d (lt k o g) g, fun k o g => h.pure k o (lt k o g) g, fun k o g hc hw q hq => h.load k o (lt k o g) g hc hw q (by omega), fun k o g => h.float k o (lt k o g) g, fun j o g => h.loud j o (lt j o g) g, fun j o g => h.rest j o (lt j o g) g⟩
end Go.Ev
namespace Go.Ev
open Go
variable {ν : Nat → Int} {P : Program} {E : Env} {base : Nat} {nt : Nat}

def upd (r : Nat → Rc) (i : Nat) (c : Rc) : Nat → Rc := fun k => if k = i then c else r k
theorem upd_self (r : Nat → Rc) (i : Nat) (c : Rc) : upd r i c i = c := by simp [upd]
theorem upd_ne (r : Nat → Rc) {i k : Nat} (c : Rc) (h : k ≠ i) : upd r i c k = r k := by simp [upd, h]
theorem upd_lt (r : Nat → Rc) {i k : Nat} (c : Rc) (h : k < i) : upd r i c k = r k := upd_ne r c (by omega)
theorem FW.upd {all : List Oper} {r : Nat → Rc} {i k : Nat} {c : Rc} (h : k ≠ i) : FW all (upd r i c) k ↔ FW all r k := by
  unfold FW; rw [upd_ne r c h]
theorem ord_lt_of {all : List Oper} {i j q : Nat} (h : ordL all j < q) (hq : q ≤ ordL all i) : j < i := by
  rcases Nat.lt_or_ge j i with c | c
  · exact c
  · have := ordL_mono (all := all) c; omega
theorem Com.upd {all : List Oper} {bs : List Nat} {r : Nat → Rc} {i k q : Nat} {c : Rc} (hq : q ≤ ordL all i) : Com all bs (upd r i c) q k ↔ Com all bs r q k := by
  unfold Com
  constructor
  · rintro ⟨j, a, b, d, e⟩
    rw [upd_lt r c (ord_lt_of d hq)] at b
    exact ⟨j, a, b, d, e⟩
  · rintro ⟨j, a, b, d, e⟩
    exact ⟨j, a, by rw [upd_lt r c (ord_lt_of d hq)]; exact b, d, e⟩
theorem pendOf_upd {n0 : Nat} {r : Nat → Rc} {i k : Nat} {c : Rc} (h : k ≠ i) : pendOf n0 (upd r i c) k = pendOf n0 r k := by
  unfold pendOf; rw [upd_ne r c h]
theorem IsVal.upd {all : List Oper} {r : Nat → Rc} {a0 : A} {i k : Nat} {c : Rc} {t : Tmp} {s : SV} (hk : k ≤ i) : IsVal all (fun x => (upd r i c x).v) a0 (fun j => j < k) t s ↔ IsVal all (fun x => (r x).v) a0 (fun j => j < k) t s := by
  unfold IsVal
  constructor
  · rintro (⟨x, h1, h2, h3, h4⟩ | h)
    · exact .inl ⟨x, h1, h2, h3, by
      have e := upd_lt r c (show x < i from Nat.lt_of_lt_of_le h1 hk)
      rw [h4]; show (Ev.upd r i c x).v = (r x).v; rw [e]⟩
    · exact .inr h
  · rintro (⟨x, h1, h2, h3, h4⟩ | h)
    · exact .inl ⟨x, h1, h2, h3, by
      have e := upd_lt r c (show x < i from Nat.lt_of_lt_of_le h1 hk)
      rw [h4]; show (r x).v = (Ev.upd r i c x).v; rw [e]⟩
    · exact .inr h
end Go.Ev
namespace Go.Ev
open Go
variable {ν : Nat → Int} {P : Program} {E : Env} {base : Nat} {nt : Nat}
variable {all : List Oper} {bs : List Nat} {n0 : Nat} {a0 : A} {r : Nat → Rc} {S : Nat → St} {i m : Nat} {a a' : A} {st : St} {pend pend' : List Pend} {seen seen' : List Seen} {snaps : List (T AB)}

/-- the temporaries behind an operation -/
theorem vals_step (h : ∀ t, t < nt → ∃ s, (flat a.tmps)[t]? = some s ∧ IsVal all (fun i => (r i).v) a0 (fun j => j < i) t s) {o : Oper} (hi : all[i]? = some o) (c : Rc)
    (hput : (o.dst = none ∧ a' = a) ∨ ∃ d, o.dst = some d ∧ flat a'.tmps = (flat a.tmps).set d c.v) :
    ∀ t, t < nt → ∃ s, (flat a'.tmps)[t]? = some s ∧ IsVal all (fun k => (upd r i c k).v) a0 (fun j => j < i + 1) t s := by
  intro t ht
  obtain ⟨s, h1, h2⟩ := h t ht
  have hd : dstOf all i = o.dst := by simp [dstOf, hi]
  have hD : (fun j => j < i + 1) = (fun j => j < i ∨ j = i) := by
    funext j; apply propext; omega
  rw [hD]
  have h2' := (IsVal.upd (c := c) (Nat.le_refl i)).2 h2
  rcases hput with ⟨e, rfl⟩ | ⟨d, e, hf⟩
  · exact ⟨s, h1, h2'.other (by rw [hd, e]; simp)⟩
  · by_cases g : t = d
    · subst g
      refine ⟨c.v, by rw [hf]; exact List.getElem?_set_self (List.getElem?_eq_some_iff.1 h1).1, ?_⟩
      have := IsVal.put (v := fun k => (upd r i c k).v) (a0 := a0) (D := fun j => j < i) (show dstOf all i = some t by rw [hd, e]) (fun j hj hD' => by omega)
      rwa [show (upd r i c i).v = c.v by rw [upd_self]] at this
    · exact ⟨s, by rw [hf, List.getElem?_set_ne (fun e' => g e'.symm)]; exact h1, h2'.other (by rw [hd, e]; simp; exact fun e' => g e'.symm)⟩
end Go.Ev
namespace Go.Ev
open Go
variable {ν : Nat → Int} {P : Program} {E : Env} {base : Nat} {nt : Nat}
variable {all : List Oper} {bs : List Nat} {n0 : Nat} {a0 : A} {r : Nat → Rc} {S : Nat → St} {i m : Nat} {a a' : A} {st : St} {pend pend' : List Pend} {seen seen' : List Seen} {snaps : List (T AB)}

theorem lt_succ {k i : Nat} (h : k < i + 1) : k < i ∨ k = i := by omega

theorem bf_lt (hM : MaskOk all bs) : ∀ (j : Nat), j < all.length → ∀ k, Bf bs k j → k < j := by
  intro j
  induction j using Nat.strongRecOn with
  | _ j ih =>
    intro hj k hk
    obtain ⟨e, e1, e2, e3⟩ := hM.bit j all[j] (by simp [hj]) k hk
    have hlt := hM.edge j all[j] (by simp [hj]) e e1 e2
    rcases e3 with rfl | e3
    · exact hlt
    · have := ih e.on hlt (by omega) k e3
      omega
/-- one operation more that is not loud -/
theorem Hist.step0 (hM : MaskOk all bs) (h : Hist P E ν base nt all bs n0 a0 r S i m a st pend seen snaps) {o : Oper} (hi : all[i]? = some o) (hl : clsOf o.op ≠ .loud) (c : Rc)
    (hm' : a'.marks = a.marks) (hput : (o.dst = none ∧ a' = a) ∨ ∃ d, o.dst = some d ∧ flat a'.tmps = (flat a.tmps).set d c.v) (hdst : ∀ d, o.dst = some d → d < nt)
    (hpn : pend'.Nodup) (hp : ∀ p, p ∈ pend' ↔ p ∈ pend ∨ (clsOf o.op = .float ∧ c.w = true ∧ p = ⟨i, n0 + i, c.b⟩)) (hnc : ¬ ∃ j, isLoud all j ∧ ordL all j < m ∧ Bf bs i j)
    (hsl : ∀ s ∈ seen', clsOf s.op = .load) (hs : ∀ s, s ∈ seen → s ∈ seen') (hsi : clsOf o.op = .load → c.w = true → (⟨i, o.op, c.a1, c.v⟩ : Seen) ∈ seen')
    (htm : Only nt (looksL all o) a c.a1) (hw : ∀ σ act, RepA ν σ nt c.a1 act → Region.wanted o (yielded all.toArray act.tmps) = c.w) (hsk : c.w = false → c.v = undefS)
    (hpure : clsOf o.op = .pure → c.w = true → XPure P ν nt o.op c.a1 c.v)
    (hload : clsOf o.op = .load → c.w = true → ∀ q, q ≤ m → (∀ j, isLoud all j → Bf bs j i → ordL all j < q) → XLoad P E ν base nt o.op c.a1 (S q) c.v)
    (hfloat : clsOf o.op = .float → c.w = true → c.v = c.f (n0 + i) ∧ ∀ σ act w (o' : Oper), o'.op = o.op → RepA ν σ nt c.a1 act →
      ∃ obj z V, (execOp act.eval o').run P w = .ok (.value V) { w with heap := w.heap.push obj } ∧ (∀ τ, σ.le τ → c.b.Is P ν τ z obj) ∧ (∀ n (τ : Sg), τ n = some (w.heap.size, z) → Rep ν τ (c.f n) V)) :
    Hist P E ν base nt all bs n0 a0 (upd r i c) S (i + 1) m a' st pend' seen' snaps := by
  have hil : i < all.length := (List.getElem?_eq_some_iff.1 hi).1
  have hli : ¬ isLoud all i := loud_none hi hl
  have hord := h.ord
  have hmi : m ≤ ordL all i := by omega
  have hio : ∀ o' : Oper, all[i]? = some o' → o' = o := fun o' g => by rw [hi] at g; cases g; rfl
  have fwi : FW all (upd r i c) i ↔ clsOf o.op = .float ∧ c.w = true := by
    unfold FW; rw [upd_self]
    exact ⟨fun ⟨o', g1, g2, g3⟩ => by rw [hio o' g1] at g2; exact ⟨g2, g3⟩, fun ⟨g1, g2⟩ => ⟨o, hi, g1, g2⟩⟩
  refine ⟨hil, by rw [ordL_succ hli]; exact hord, h.last, h.next, h.mono, h.snapsLen, h.snaps, hm'.trans h.marks, vals_step h.vals hi c hput, hpn, fun p => ?_, hsl, fun k o' hk g hc => ?_, fun k o' hk g => ?_, fun k o' hk g => ?_, fun k hk => ?_, fun k o' d hk g => ?_, fun k o' hk g hc => ?_, fun k o' hk g hc => ?_, fun k o' hk g hc => ?_, fun j o' hj g hc => ?_, fun j o' hj g hc => ?_⟩
  · rw [hp, h.pend]
    constructor
    · rintro (⟨k, k1, k2, k3, rfl⟩ | ⟨g1, g2, rfl⟩)
      · exact ⟨k, by omega, (FW.upd (by omega)).2 k2, fun e => k3 ((Com.upd hmi).1 e), (pendOf_upd (by omega)).symm⟩
      · exact ⟨i, by omega, fwi.2 ⟨g1, g2⟩, fun e => let ⟨j, j1, _, j3, j4⟩ := e; hnc ⟨j, j1, j3, j4⟩, by simp [pendOf, upd_self]⟩
    · rintro ⟨k, k1, k2, k3, rfl⟩
      rcases lt_succ k1 with g | rfl
      · exact .inl ⟨k, g, (FW.upd (by omega)).1 k2, fun e => k3 ((Com.upd hmi).2 e), pendOf_upd (by omega)⟩
      · obtain ⟨g1, g2⟩ := fwi.1 k2
        exact .inr ⟨g1, g2, by simp [pendOf, upd_self]⟩
  · rcases lt_succ hk with e | rfl
    · rw [upd_lt r c e]; exact fun hw' => hs _ (h.seen k o' e g hc hw')
    · rw [hio o' g] at hc ⊢; rw [upd_self]; exact hsi hc
  · rcases lt_succ hk with e | rfl
    · obtain ⟨a2, g1, g2, g3⟩ := h.tm k o' e g
      rw [upd_lt r c e]
      exact ⟨a2, g1, g2, fun t ht s hs' => (IsVal.upd (by omega)).2 (g3 t ht s hs')⟩
    · rw [hio o' g, upd_self]
      refine ⟨a, htm, h.marks, fun t ht s hs' => (IsVal.upd (Nat.le_refl _)).2 ?_⟩
      obtain ⟨s', e1, e2⟩ := h.vals t ht
      rw [e1] at hs'; cases hs'; exact e2
  · rcases lt_succ hk with e | rfl
    · rw [upd_lt r c e]; exact h.want k o' e g
    · rw [hio o' g, upd_self]; exact hw
  · rcases lt_succ hk with e | rfl
    · rw [upd_lt r c e]; exact h.skip k e
    · rw [upd_self]; exact hsk
  · rcases lt_succ hk with e | rfl
    · exact h.dst k o' d e g
    · rw [hio o' g]; exact hdst d
  · rcases lt_succ hk with e | rfl
    · rw [upd_lt r c e]; exact h.pure k o' e g hc
    · rw [hio o' g] at hc ⊢; rw [upd_self]; exact hpure hc
  · rcases lt_succ hk with e | rfl
    · rw [upd_lt r c e]; exact h.load k o' e g hc
    · rw [hio o' g] at hc ⊢; rw [upd_self]; exact fun hw' q hq hb _ => hload hc hw' q hq hb
  · rcases lt_succ hk with e | rfl
    · rw [upd_lt r c e]; exact h.float k o' e g hc
    · rw [hio o' g] at hc ⊢; rw [upd_self]; exact hfloat hc
  · rcases lt_succ hj with e | rfl
    · rw [upd_lt r c e]
      intro hw'
      obtain ⟨L, st', l1, l2, l3, l4⟩ := h.loud j o' e g hc hw'
      refine ⟨L, st', l1, fun p => ?_, l3, l4⟩
      rw [l2]
      have hjl : j < all.length := by omega
      have hoj : ordL all j ≤ ordL all i := ordL_mono (by omega)
      constructor
      · rintro ⟨k, k1, k2, k3, rfl⟩
        have hk := bf_lt hM j hjl k k2
        exact ⟨k, (FW.upd (by omega)).2 k1, k2, fun e' => k3 ((Com.upd hoj).1 e'), (pendOf_upd (by omega)).symm⟩
      · rintro ⟨k, k1, k2, k3, rfl⟩
        have hk := bf_lt hM j hjl k k2
        exact ⟨k, (FW.upd (by omega)).1 k1, k2, fun e' => k3 ((Com.upd hoj).2 e'), pendOf_upd (by omega)⟩
    · exact absurd (hio o' g ▸ hc) hl
  · rcases lt_succ hj with e | rfl
    · rw [upd_lt r c e]; exact h.rest j o' e g hc
    · exact absurd (hio o' g ▸ hc) hl
end Go.Ev
namespace Go.Ev
open Go
variable {ν : Nat → Int} {P : Program} {E : Env} {base : Nat} {nt : Nat}
variable {all : List Oper} {bs : List Nat} {n0 : Nat} {a0 : A} {r : Nat → Rc} {S : Nat → St} {i m : Nat} {a a' : A} {st : St} {pend pend' : List Pend} {seen seen' : List Seen} {snaps : List (T AB)}

def updS (S : Nat → St) (q : Nat) (s : St) : Nat → St := fun x => if x = q then s else S x
theorem updS_self (S : Nat → St) (q : Nat) (s : St) : updS S q s q = s := by simp [updS]
theorem updS_ne (S : Nat → St) {q x : Nat} (s : St) (h : x ≠ q) : updS S q s x = S x := by simp [updS, h]
theorem com_succ {c : Rc} {k : Nat} (hli : isLoud all i) (hm : m = ordL all i) : Com all bs (upd r i c) (m + 1) k ↔ Com all bs r m k ∨ (c.w = true ∧ Bf bs k i) := by
  unfold Com
  constructor
  · rintro ⟨j, g1, g2, g3, g4⟩
    by_cases e : j = i
    · subst e; rw [upd_self] at g2; exact .inr ⟨g2, g4⟩
    · rw [upd_ne r c e] at g2
      refine .inl ⟨j, g1, g2, ?_, g4⟩
      have : ordL all j ≠ ordL all i := fun q => e (ordL_inj g1 hli q)
      omega
  · rintro (⟨j, g1, g2, g3, g4⟩ | ⟨g1, g2⟩)
    · exact ⟨j, g1, by rw [upd_lt r c (ord_lt_of g3 (by omega))]; exact g2, by omega, g4⟩
    · exact ⟨i, hli, by rw [upd_self]; exact g1, by omega, g2⟩
end Go.Ev
namespace Go.Ev
open Go
variable {ν : Nat → Int} {P : Program} {E : Env} {base : Nat} {nt : Nat}
variable {all : List Oper} {bs : List Nat} {n0 : Nat} {a0 : A} {r : Nat → Rc} {S : Nat → St} {i m : Nat} {a a' : A} {st st2 : St} {pend pend' : List Pend} {seen : List Seen} {snaps : List (T AB)}

/-- the loads' facts, one state more -/
theorem load_succ (_hM : MaskOk all bs) (h : Hist P E ν base nt all bs n0 a0 r S i m a st pend seen snaps) (hli : isLoud all i) (_c : Rc)
    (hnew : ∀ (k : Nat) (o : Oper), k < i → all[k]? = some o → clsOf o.op = .load → (r k).w = true → ¬ Bf bs k i → (∀ q, q = m → (∀ j, isLoud all j → Bf bs j k → ordL all j < q) → XLoad P E ν base nt o.op (r k).a1 (S q) (r k).v) → XLoad P E ν base nt o.op (r k).a1 st2 (r k).v) :
    ∀ (k : Nat) (o : Oper), k < i → all[k]? = some o → clsOf o.op = .load → (r k).w = true → ∀ q, q ≤ m + 1 → (∀ j, isLoud all j → Bf bs j k → ordL all j < q) → (∀ j, isLoud all j → ordL all j < q → ¬ Bf bs k j) → XLoad P E ν base nt o.op (r k).a1 (updS S (m + 1) st2 q) (r k).v := by
  intro k o hk g hc hw q hq h1 h2
  have hord := h.ord
  by_cases e : q = m + 1
  · subst e
    rw [updS_self]
    refine hnew k o hk g hc hw (h2 i hli (by omega)) fun q e h1' => ?_
    subst e
    exact h.load k o hk g hc hw q (Nat.le_refl _) h1' fun j hj hlt => h2 j hj (by omega)
  · rw [updS_ne _ _ e]
    exact h.load k o hk g hc hw q (by omega) h1 h2
end Go.Ev
namespace Go.Ev
open Go
variable {ν : Nat → Int} {P : Program} {E : Env} {base : Nat} {nt : Nat}
variable {all : List Oper} {bs : List Nat} {n0 : Nat} {a0 : A} {r : Nat → Rc} {S : Nat → St} {i m : Nat} {a a' : A} {st st2 : St} {pend pend' : List Pend} {seen : List Seen} {snaps : List (T AB)}

/-- one loud operation more -/
theorem Hist.step1 (hM : MaskOk all bs) (h : Hist P E ν base nt all bs n0 a0 r S i m a st pend seen snaps) {o : Oper} (hi : all[i]? = some o) (hl : clsOf o.op = .loud) (c : Rc)
    (hm' : a'.marks = a.marks) (hput : (o.dst = none ∧ a' = a) ∨ ∃ d, o.dst = some d ∧ flat a'.tmps = (flat a.tmps).set d c.v) (hdst : ∀ d, o.dst = some d → d < nt)
    (hnx : st.next ≤ st2.next) (hpn : pend'.Nodup) (hp : ∀ p, p ∈ pend' ↔ p ∈ pend ∧ ¬ (c.w = true ∧ Bf bs p.i i))
    (htm : Only nt (looksL all o) a c.a1) (hw : ∀ σ act, RepA ν σ nt c.a1 act → Region.wanted o (yielded all.toArray act.tmps) = c.w) (hsk : c.w = false → c.v = undefS)
    (hload : ∀ (k : Nat) (o : Oper), k < i → all[k]? = some o → clsOf o.op = .load → (r k).w = true → ¬ Bf bs k i → (∀ q, q = m → (∀ j, isLoud all j → Bf bs j k → ordL all j < q) → XLoad P E ν base nt o.op (r k).a1 (S q) (r k).v) → XLoad P E ν base nt o.op (r k).a1 st2 (r k).v)
    (hloud : c.w = true → ∃ L st', Commits L st st' ∧ (∀ p, p ∈ L ↔ p ∈ pend ∧ Bf bs p.i i) ∧ L.Nodup ∧
      ∀ σ w act (o' : Oper) F n (K : Act → World → Prop) (Q : Exit → Act → World → Prop), o'.op = o.op → Sim P E ν base σ st' w → (∃ act1, RepA ν σ nt c.a1 act1 ∧ ∀ x ∈ o.op.operands, act1.eval x = act.eval x) → OkF F →
        (∀ σ' w' V, Goes P E ν base σ st' w σ' st2 w' → Rep ν σ' c.v V → K (act.put o'.dst V) w') → o'.wpIn F n P act w K Q)
    (hrest : c.w = false → st2 = st) :
    Hist P E ν base nt all bs n0 a0 (upd r i c) (updS S (m + 1) st2) (i + 1) (m + 1) a' st2 pend' seen (st.heap :: snaps) := by
  have hil : i < all.length := (List.getElem?_eq_some_iff.1 hi).1
  have hli : isLoud all i := ⟨o, hi, hl⟩
  have hord := h.ord
  have hio : ∀ o' : Oper, all[i]? = some o' → o' = o := fun o' g => by rw [hi] at g; cases g; rfl
  have hfw : ∀ k, k ≤ i → (FW all (upd r i c) k ↔ k < i ∧ FW all r k) := fun k hk => by
    by_cases e : k = i
    · subst e
      exact ⟨(fun ⟨o', g1, g2, _⟩ => by rw [hio o' g1, hl] at g2; cases g2), fun g => by omega⟩
    · rw [FW.upd e]; exact ⟨fun g => ⟨by omega, g⟩, fun g => g.2⟩
  have oldS : ∀ q, q ≤ m → updS S (m + 1) st2 q = S q := fun q hq => updS_ne _ _ (by omega)
  have hold : ∀ j, j < i → isLoud all j → ordL all j + 1 ≤ m := fun j hj hL => by have := ordL_lt hL hj; omega
  refine ⟨hil, by rw [ordL_succ_loud hli, hord], updS_self _ _ _, fun q hq => ?_, fun q hq => ?_, by simp [h.snapsLen], fun x hx => ?_, hm'.trans h.marks, vals_step h.vals hi c hput, hpn, fun p => ?_, h.seenLoad, fun k o' hk g hc => ?_, fun k o' hk g => ?_, fun k o' hk g => ?_, fun k hk => ?_, fun k o' d hk g => ?_, fun k o' hk g hc => ?_, fun k o' hk g hc => ?_, fun k o' hk g hc => ?_, fun j o' hj g hc => ?_, fun j o' hj g hc => ?_⟩
  · by_cases e : q = m + 1
    · subst e; rw [updS_self]
      have := h.next m (Nat.le_refl _); rw [h.last] at this; omega
    · rw [oldS q (by omega)]; exact h.next q (by omega)
  · by_cases e : q = m + 1
    · subst e; rw [updS_self]; exact Nat.le_refl _
    · rw [oldS q (by omega)]; have := h.mono q (by omega); omega
  · cases x with
    | zero => simp only [Nat.add_sub_cancel, Nat.sub_zero, List.getElem?_cons_zero]; rw [oldS m (Nat.le_refl _), h.last]
    | succ x =>
      have hx' : x < m := by omega
      rw [List.getElem?_cons_succ, h.snaps x hx']
      have e : m + 1 - 1 - (x + 1) = m - 1 - x := by omega
      rw [e, oldS _ (by omega)]
  · rw [hp, h.pend]
    constructor
    · rintro ⟨⟨k, k1, k2, k3, rfl⟩, k4⟩
      refine ⟨k, by omega, (FW.upd (by omega)).2 k2, fun e => ?_, (pendOf_upd (by omega)).symm⟩
      rcases (com_succ hli hord).1 e with g | g
      · exact k3 g
      · exact k4 g
    · rintro ⟨k, k1, k2, k3, rfl⟩
      obtain ⟨g1, g2⟩ := (hfw k (by omega)).1 k2
      have e := (com_succ (r := r) (c := c) (k := k) (bs := bs) hli hord)
      exact ⟨⟨k, g1, g2, fun e' => k3 (e.2 (.inl e')), pendOf_upd (by omega)⟩, fun e' => k3 (e.2 (.inr e'))⟩
  · rcases lt_succ hk with e | rfl
    · rw [upd_lt r c e]; exact h.seen k o' e g hc
    · rw [hio o' g, hl] at hc; cases hc
  · rcases lt_succ hk with e | rfl
    · obtain ⟨a2, g1, g2, g3⟩ := h.tm k o' e g
      rw [upd_lt r c e]
      exact ⟨a2, g1, g2, fun t ht s hs' => (IsVal.upd (by omega)).2 (g3 t ht s hs')⟩
    · rw [hio o' g, upd_self]
      refine ⟨a, htm, h.marks, fun t ht s hs' => (IsVal.upd (Nat.le_refl _)).2 ?_⟩
      obtain ⟨s', e1, e2⟩ := h.vals t ht
      rw [e1] at hs'; cases hs'; exact e2
  · rcases lt_succ hk with e | rfl
    · rw [upd_lt r c e]; exact h.want k o' e g
    · rw [hio o' g, upd_self]; exact hw
  · rcases lt_succ hk with e | rfl
    · rw [upd_lt r c e]; exact h.skip k e
    · rw [upd_self]; exact hsk
  · rcases lt_succ hk with e | rfl
    · exact h.dst k o' d e g
    · rw [hio o' g]; exact hdst d
  · rcases lt_succ hk with e | rfl
    · rw [upd_lt r c e]; exact h.pure k o' e g hc
    · rw [hio o' g, hl] at hc; cases hc
  · rcases lt_succ hk with e | rfl
    · rw [upd_lt r c e]; exact fun hw' q hq h1 h2 => load_succ hM h hli c hload k o' e g hc hw' q hq h1 h2
    · rw [hio o' g, hl] at hc; cases hc
  · rcases lt_succ hk with e | rfl
    · rw [upd_lt r c e]; exact h.float k o' e g hc
    · rw [hio o' g, hl] at hc; cases hc
  · rcases lt_succ hj with e | rfl
    · rw [upd_lt r c e]
      intro hw'
      have hjm := hold j e ⟨o', g, hc⟩
      rw [oldS (ordL all j) (by omega), oldS (ordL all j + 1) hjm]
      obtain ⟨L, st', l1, l2, l3, l4⟩ := h.loud j o' e g hc hw'
      refine ⟨L, st', l1, fun p => ?_, l3, l4⟩
      rw [l2]
      have hjl : j < all.length := by omega
      have hoj : ordL all j ≤ ordL all i := ordL_mono (by omega)
      constructor
      · rintro ⟨k, k1, k2, k3, rfl⟩
        have hk := bf_lt hM j hjl k k2
        exact ⟨k, (FW.upd (by omega)).2 k1, k2, fun e' => k3 ((Com.upd hoj).1 e'), (pendOf_upd (by omega)).symm⟩
      · rintro ⟨k, k1, k2, k3, rfl⟩
        have hk := bf_lt hM j hjl k k2
        exact ⟨k, (FW.upd (by omega)).1 k1, k2, fun e' => k3 ((Com.upd hoj).2 e'), pendOf_upd (by omega)⟩
    · rw [hio o' g] at hc ⊢
      rw [upd_self, ← hord, oldS m (Nat.le_refl _), updS_self, h.last]
      intro hw'
      obtain ⟨L, st', l1, l2, l3, l4⟩ := hloud hw'
      refine ⟨L, st', l1, fun p => ?_, l3, l4⟩
      rw [l2, h.pend]
      constructor
      · rintro ⟨⟨k, k1, k2, k3, rfl⟩, k4⟩
        exact ⟨k, (FW.upd (by omega)).2 k2, k4, fun e' => k3 ((Com.upd (by omega)).1 e'), (pendOf_upd (by omega)).symm⟩
      · rintro ⟨k, k1, k2, k3, rfl⟩
        have hk := bf_lt hM j hil k k2
        exact ⟨⟨k, hk, (FW.upd (by omega)).1 k1, fun e' => k3 ((Com.upd (by omega)).2 e'), pendOf_upd (by omega)⟩, by show Bf bs k j; exact k2⟩
  · rcases lt_succ hj with e | rfl
    · rw [upd_lt r c e]
      intro hw'
      have hjm := hold j e ⟨o', g, hc⟩
      rw [oldS (ordL all j) (by omega), oldS (ordL all j + 1) hjm]
      exact h.rest j o' e g hc hw'
    · rw [upd_self, ← hord, oldS m (Nat.le_refl _), updS_self, h.last]
      exact hrest
end Go.Ev
namespace Go.Ev
open Go
variable {ν : Nat → Int} {P : Program} {E : Env} {base : Nat} {nt : Nat}

/-- an operation's activation agrees with the evaluator's in the operands -/
def Agr (ν : Nat → Int) (σ : Sg) (nt : Nat) (op : Op) (a : A) (act : Act) : Prop := ∃ act1 : Act, RepA ν σ nt a act1 ∧ ∀ x ∈ op.operands, act1.eval x = act.eval x
/-- as XLands, for an activation that agrees in the operands -/
def XLoud (P : Program) (E : Env) (ν : Nat → Int) (base nt : Nat) (op : Op) (a : A) (st : St) (v : SV) (st' : St) : Prop :=
  ∀ σ w act (o : Oper) F n (K : Act → World → Prop) (Q : Exit → Act → World → Prop), o.op = op → Sim P E ν base σ st w → Agr ν σ nt op a act → OkF F →
    (∀ σ' w' V, Goes P E ν base σ st w σ' st' w' → Rep ν σ' v V → K (act.put o.dst V) w') → o.wpIn F n P act w K Q

theorem XRun.loud {op : Op} (hd : ∀ c, op ≠ .defer c) (hsel : ∀ cs b, op ≠ .select cs b) {a : A} {st : St} {v : SV} {st' : St} (h : XRun P E ν base nt op a st v st') : XLoud P E ν base nt op a st v st' := by
  intro σ w act o F n K Q ho hs ha hF hK
  obtain ⟨act1, ha1, ha2⟩ := ha
  obtain ⟨V, w', σ', h1, h2, h3⟩ := h σ w act1 o ho hs ha1
  rw [execOp_congr o (by rw [ho]; exact hsel) (by rw [ho]; exact ha2)] at h1
  refine ⟨fun f _ => hF.fn f, ?_⟩
  rw [Oper.semAt_eq _ _ _ (by rw [ho]; exact hd)]
  rcases h1 with h1 | ⟨h1, rfl⟩
  · rw [h1]; exact hK σ' w' V h3 h2
  · rw [h1]; exact hK σ' w' _ h3 h2

theorem agr_call {c : Call} {f : Operand} (hc : c.callee = .value f) {act act1 : Act} (h : ∀ x ∈ (Op.call c).operands, act1.eval x = act.eval x) : act1.eval f = act.eval f ∧ c.args.map act1.eval = c.args.map act.eval :=
  ⟨h f (by simp [Op.operands, Call.operands, hc]), Array.map_congr_left fun x hx => h x (by simp [Op.operands, Call.operands, hx])⟩

theorem call_loud {c : Call} {f : Operand} (hc : c.callee = .value f) {a : A} {st : St} {v : SV} {st' : St} {g : FuncId} {args : List SV} (h : CallLands P E ν base g args st v st')
    (hr : ∀ σ act, RepA ν σ nt a act → ∃ (F C : Array Value), act.eval f = .func (.func g) F C ∧ RepL ν σ args (F.toList ++ ((c.args.map act.eval).toList ++ C.toList))) : XLoud P E ν base nt (.call c) a st v st' := by
  intro σ w act o F n K Q ho hs ha hF hK
  obtain ⟨act1, ha1, ha2⟩ := ha
  obtain ⟨Fs, C, e1, e2⟩ := hr σ act1 ha1
  obtain ⟨g1, g2⟩ := agr_call hc ha2
  rw [g1] at e1
  rw [g2] at e2
  refine ⟨fun f _ => hF.fn f, ?_⟩
  rw [Oper.semAt_eq _ _ _ (by rw [ho]; intro c e; cases e)]
  have e : (execOp act.eval o).run P w = .ok (.enter g (Fs ++ c.args.map act.eval ++ C)) w := by
    simp [execOp, ho, resolve, hc, e1, Deferred.ofValue, invoke, h.1]
  rw [e, Oper.uponIn_enter]
  refine ⟨(fun hd => by rw [hF.depth] at hd; cases hd), hF.calls ?_⟩
  refine h.2 σ w _ (n - 1) _ hs (by simpa using e2) (fun σ' w' V go hv => hK σ' w' V go hv)

theorem yield_loud {c : Call} {f : Operand} (hc : c.callee = .value f) {a : A} {st : St} {v : SV} {st' : St} {l : Nat} {args : List SV} (h : YLands P E ν base l args st v st')
    (hr : ∀ σ act, RepA ν σ nt a act → Rep ν σ (.yield l) (act.eval f) ∧ RepL ν σ args (c.args.map act.eval).toList) : XLoud P E ν base nt (.call c) a st v st' := by
  intro σ w act o F n K Q ho hs ha hF hK
  obtain ⟨act1, ha1, ha2⟩ := ha
  obtain ⟨e1, e2⟩ := hr σ act1 ha1
  obtain ⟨g1, g2⟩ := agr_call hc ha2
  rw [g1] at e1
  rw [g2] at e2
  simp only [Rep] at e1
  obtain ⟨b, z, hl, e1⟩ := e1
  refine ⟨fun f _ => hF.fn f, ?_⟩
  rw [Oper.semAt_eq _ _ _ (by rw [ho]; intro c e; cases e)]
  obtain ⟨f', tmps, as, bd, r1, r2⟩ := h σ w (c.args.map act.eval) (n - 1) b z (fun | .returned v, w'' => K (act.put o.dst v) w'' | .panicked chain, w'' => Q (.panic chain) act w'' | .outgrown, _ => LetsOut Q) hs e2 hl (fun σ' w' V go hv => hK σ' w' V go hv)
  have e : (execOp act.eval o).run P w = .ok (.round b f' tmps as bd) w := by
    simp [execOp, ho, resolve, hc, e1, Deferred.ofValue, invoke, r1]
  rw [e, Oper.uponIn_round]
  exact ⟨(fun hd => by rw [hF.depth] at hd; cases hd), hF.round r2⟩

theorem invokeK_loud (hI : IntrOk P E ν base) {self : Self} (hS : SelfOk P E ν base self) {c : Call} {f : Operand} (hc : c.callee = .value f) {a : A} {fv : SV} {args : List SV} {st : St} {k : SV → St → R} {out}
    (hf : ∀ σ act, RepA ν σ nt a act → Rep ν σ fv (act.eval f)) (ha : ∀ σ act, RepA ν σ nt a act → RepL ν σ args (c.args.map act.eval).toList) (h : invokeK E self fv args st k = .ok out) :
    ∃ v st', k v st' = .ok out ∧ XLoud P E ν base nt (.call c) a st v st' := by
  unfold invokeK at h
  split at h
  · rename_i g first captured
    rw [appLK_eq, appLK_eq] at h
    obtain ⟨v, st', h, h1⟩ := callC_ok hI hS h
    refine ⟨v, st', h, call_loud hc h1 fun σ act hh => ?_⟩
    have := hf σ act hh
    simp only [Rep] at this
    obtain ⟨F, C, e, g1, g2⟩ := this
    exact ⟨F, C, e, g1.append ((ha σ act hh).append g2)⟩
  · rename_i l
    obtain ⟨v, st', h, h1⟩ := yieldK_ok hS h
    exact ⟨v, st', h, yield_loud hc h1 fun σ act hh => ⟨hf σ act hh, ha σ act hh⟩⟩
  · cases h

theorem execC_loud (hE : EOk P E ν) (hI : IntrOk P E ν base) {op : Op} {self : Self} (hS : SelfOk P E ν base self) {a : A} {st : St} {k : SV → St → R} {out} (h : (execC E nt op).run self a st k = .ok out) :
    ∃ v st', k v st' = .ok out ∧ XLoud P E ν base nt op a st v st' := by
  by_cases hst : still op
  · obtain ⟨v, st', h1, h2⟩ := execC_run (base := base) hE hst h
    exact ⟨v, st', h1, h2.loud (fun c e => by subst e; cases h) (fun cs b e => by subst e; cases h)⟩
  · have : ∃ c, op = .call c ∧ ∀ b, c.callee ≠ .builtin b := by
      by_cases g : ∃ c, op = .call c ∧ ∀ b, c.callee ≠ .builtin b
      · exact g
      · exact absurd (fun c e => by
          by_cases q : ∃ b, c.callee = .builtin b
          · exact q
          · exact absurd ⟨c, e, fun b eb => q ⟨b, eb⟩⟩ g) hst
    obtain ⟨c, rfl, hc⟩ := this
    dsimp only [execC] at h
    split at h
    · rename_i b hb; exact absurd hb (hc b)
    · rename_i f hf
      dsimp only at h
      have h0 := opsC_ok (ν := ν) h; clear h; obtain ⟨args, h, h1⟩ := h0
      obtain ⟨v, st', h, h2⟩ := callC_ok hI hS h
      refine ⟨v, st', h, call_loud hf h2 fun σ act hh => ⟨#[], #[], rfl, ?_⟩⟩
      simpa using h1 σ act hh
    · rename_i f _ hf
      dsimp only at h
      have h0 := opsC_ok (ν := ν) h; clear h; obtain ⟨args, h, h1⟩ := h0
      have h0 := opC_ok (ν := ν) h; clear h; obtain ⟨fv, h, h2⟩ := h0
      exact invokeK_loud hI hS hf h2 (fun σ act hh => by simpa using h1 σ act hh) h
    · cases h
end Go.Ev
namespace Go.Ev
open Go
variable {ν : Nat → Int} {P : Program} {E : Env} {base : Nat} {nt : Nat}
variable {all : List Oper} {bs : List Nat} {n0 : Nat} {a0 : A} {r : Nat → Rc} {S : Nat → St} {i m : Nat} {a a' : A} {st st2 : St} {pend pend' : List Pend} {seen : List Seen} {snaps : List (T AB)}

theorem putS_facts {d : Option Tmp} {v : SV} {k : A → R} {out} (h : (putS nt d).run a v k = .ok out) :
    ∃ a', k a' = .ok out ∧ a'.marks = a.marks ∧ ((d = none ∧ a' = a) ∨ ∃ e, d = some e ∧ flat a'.tmps = (flat a.tmps).set e v) ∧ ∀ e, d = some e → e < nt := by
  cases d with
  | none => exact ⟨a, h, rfl, .inl ⟨rfl, rfl⟩, fun e g => by cases g⟩
  | some d =>
    simp only [putS] at h
    split at h
    · rename_i hb
      obtain ⟨a', h1, h2, h3⟩ := putA_ok h
      exact ⟨a', h1, h3, .inr ⟨d, rfl, h2⟩, fun e g => by cases g; exact Nat.le_of_ble_eq_true hb⟩
    · cases h

theorem XLoad.mono {op : Op} {a : A} {h : T AB} {n n' : Nat} {v : SV} (hn : n' ≤ n) (k : XLoad P E ν base nt op a ⟨h, n⟩ v) : XLoad P E ν base nt op a ⟨h, n'⟩ v :=
  fun σ w act o ho hs ha => k σ w act o ho (hs.next_mono hn) ha

theorem loudIn_le (mask q : Nat) : ∀ (l pre : List Oper), (∀ j, isLoud (pre ++ l) j → mask.testBit j = true → ordL (pre ++ l) j < q) → loudIn mask pre.length l ≤ q - ordL (pre ++ l) pre.length := by
  intro l
  induction l with
  | nil => intro pre _; exact Nat.zero_le _
  | cons o l ih =>
    intro pre h
    have hi : (pre ++ o :: l)[pre.length]? = some o := by simp
    have e : pre ++ o :: l = (pre ++ [o]) ++ l := by simp
    have := ih (pre ++ [o]) (by rw [← e]; exact h)
    rw [← e] at this
    simp only [List.length_append, List.length_cons, List.length_nil, Nat.zero_add] at this
    simp only [loudIn]
    split
    · rename_i hc
      have hl : isLoud (pre ++ o :: l) pre.length := ⟨o, hi, hc⟩
      rw [ordL_succ_loud hl] at this
      rw [bitOf_eq]
      split
      · rename_i hb
        have := h pre.length hl hb
        show Nat.succ (loudIn mask (pre.length + 1) l) ≤ _
        omega
      · show loudIn mask (pre.length + 1) l ≤ _
        omega
    · rename_i hc
      have hl : ¬ isLoud (pre ++ o :: l) pre.length := loud_none hi (fun g => hc g)
      rw [ordL_succ hl] at this
      exact this
theorem loudIn_all {mask q : Nat} (h : ∀ j, isLoud all j → mask.testBit j = true → ordL all j < q) : loudIn mask 0 all ≤ q := by
  have := loudIn_le mask q all [] (by simpa using h)
  simpa [ordL] using this

theorem bf_iff {mask : Nat} (hb : bs[i]? = some mask) (k : Nat) : Bf bs k i ↔ mask.testBit k = true :=
  ⟨fun ⟨q, q1, q2⟩ => by rw [hb] at q1; cases q1; exact q2, fun h => ⟨mask, hb, h⟩⟩
end Go.Ev
namespace Go.Ev
open Go
variable {ν : Nat → Int} {P : Program} {E : Env} {base : Nat} {nt : Nat}
variable {all : List Oper} {bs : List Nat} {n0 : Nat} {a0 : A}

theorem drC_hist (hE : EOk P E ν) (hI : IntrOk P E ν base) {self : Self} (hS : SelfOk P E ν base self) (hM : MaskOk all bs) {fresh : List C8} (hl : nt ≤ (flat fresh).length) (hf : ∀ t, t < nt → (flat fresh)[t]? = some undefS) :
    ∀ (rest pre : List Oper), all = pre ++ rest → ∀ {r : Nat → Rc} {S : Nat → St} {m : Nat} {a : A} {st : St} {pend : List Pend} {seen : List Seen} {snaps : List (T AB)} {k : A → St → R} {out},
    Hist P E ν base nt all bs n0 a0 r S pre.length m a st pend seen snaps → (∀ k, pre.length ≤ k → (r k).w = false → (r k).v = undefS) → (drC E nt all bs fresh pre.length m rest).run self n0 a st pend seen snaps k = .ok out →
    ∃ r S' m a st pend seen snaps, Hist P E ν base nt all bs n0 a0 r S' all.length m a st pend seen snaps ∧ S' 0 = S 0 ∧ (∀ k, all.length ≤ k → (r k).w = false → (r k).v = undefS) ∧ (commitK none pend st fun _ st => k a st) = .ok out := by
  intro rest
  induction rest with
  | nil =>
    intro pre hall r S m a st pend seen snaps k out hH hsk h
    have e : pre.length = all.length := by rw [hall]; simp
    rw [e] at hH hsk
    exact ⟨r, S, m, a, st, pend, seen, snaps, hH, rfl, hsk, h⟩
  | cons o rest ih =>
    intro pre hall r S m a st pend seen snaps k out hH hsk h
    have hall' : all = (pre ++ [o]) ++ rest := by rw [hall]; simp
    have hi : all[pre.length]? = some o := by rw [hall]; simp
    have hlen : (pre ++ [o]).length = pre.length + 1 := by simp
    have ih' := @ih (pre ++ [o]) hall'
    rw [hlen] at ih'
    clear ih
    generalize hpi : pre.length = i at *
    have hil : i < all.length := (List.getElem?_eq_some_iff.1 hi).1
    obtain ⟨mask, hb⟩ : ∃ mask, bs[i]? = some mask := ⟨bs[i]'(by rw [hM.len]; exact hil), by simp [hM.len, hil]⟩
    simp only [drC, getL_eq, hb] at h
    have hord := hH.ord
    have hsk' : ∀ c : Rc, ∀ k, i + 1 ≤ k → (upd r i c k).w = false → (upd r i c k).v = undefS := fun c k hk => by
      rw [upd_ne r c (by omega)]; exact hsk k (by omega)
    have hnc : ¬ ∃ j, isLoud all j ∧ ordL all j < m ∧ Bf bs i j := fun ⟨j, j1, j2, j3⟩ => by
      have h1 := ord_lt_of (i := i) j2 (by omega)
      have h2 := bf_lt hM j (by omega) i j3
      omega
    have hbL : ∀ q, (∀ j, isLoud all j → Bf bs j i → ordL all j < q) → loudIn mask 0 all ≤ q := fun q hq => loudIn_all fun j j1 j2 => hq j j1 ((bf_iff hb j).2 j2)
    cases hcl : clsOf o.op with
    | pure =>
      simp only [hcl] at h
      have h0 := onlyC_ok hl hf h; clear h; obtain ⟨a1, h, h1, _⟩ := h0
      have h0 := wantG_ok (ν := ν) h; clear h; obtain ⟨b, h, h2⟩ := h0
      cases b with
      | true =>
        dsimp only at h
        have h0 := execC_pure (ν := ν) hE hcl h; clear h; obtain ⟨v, h, h3⟩ := h0
        have h0 := putS_facts h; clear h; obtain ⟨a', h, h4, h5, h6⟩ := h0
        exact ih' (hH.step0 hM hi (by rw [hcl]; simp) ⟨a1, true, v, (r i).b, (r i).f⟩ h4 h5 h6 hH.nodup (fun p => ⟨.inl, fun g => g.resolve_right fun ⟨g, _⟩ => by rw [hcl] at g; cases g⟩) hnc hH.seenLoad (fun _ g => g) (fun g => by rw [hcl] at g; cases g) h1 h2 (fun g => by cases g) (fun _ _ => h3) (fun g => by rw [hcl] at g; cases g) (fun g => by rw [hcl] at g; cases g)) (hsk' _) h
      | false =>
        dsimp only at h
        have h0 := putS_facts h; clear h; obtain ⟨a', h, h4, h5, h6⟩ := h0
        exact ih' (hH.step0 hM hi (by rw [hcl]; simp) ⟨a1, false, undefS, (r i).b, (r i).f⟩ h4 h5 h6 hH.nodup (fun p => ⟨.inl, fun g => g.resolve_right fun ⟨g, _⟩ => by rw [hcl] at g; cases g⟩) hnc hH.seenLoad (fun _ g => g) (fun g => by rw [hcl] at g; cases g) h1 h2 (fun _ => rfl) (fun _ g => by cases g) (fun g => by rw [hcl] at g; cases g) (fun g => by rw [hcl] at g; cases g)) (hsk' _) h
    | load =>
      simp only [hcl] at h
      have h0 := onlyC_ok hl hf h; clear h; obtain ⟨a1, h, h1, _⟩ := h0
      have h0 := wantG_ok (ν := ν) h; clear h; obtain ⟨b, h, h2⟩ := h0
      cases b with
      | true =>
        dsimp only at h
        have h0 := execC_load (base := base) hE hcl h; clear h; obtain ⟨v, h, h3⟩ := h0
        have h0 := oldK_ok (base := base) hE hcl h; clear h; obtain ⟨h, h3'⟩ := h0
        have h0 := putS_facts h; clear h; obtain ⟨a', h, h4, h5, h6⟩ := h0
        refine ih' (hH.step0 hM hi (by rw [hcl]; simp) ⟨a1, true, v, (r i).b, (r i).f⟩ h4 h5 h6 hH.nodup (fun p => ⟨.inl, fun g => g.resolve_right fun ⟨g, _⟩ => by rw [hcl] at g; cases g⟩) hnc (fun s hs => ?_) (fun _ g => .tail _ g) (fun _ _ => .head _) h1 h2 (fun g => by cases g) (fun g => by rw [hcl] at g; cases g) (fun _ _ q hq hbq => ?_) (fun g => by rw [hcl] at g; cases g)) (hsk' _) h
        · cases hs with
          | head => exact hcl
          | tail _ hs => exact hH.seenLoad s hs
        · have hge := hbL q hbq
          by_cases e : q = m
          · subst e; rw [hH.last]; exact h3
          · obtain ⟨hp, e1, e2⟩ := h3' (m - 1 - q) (by omega)
            rw [hH.snaps (m - 1 - q) (by omega)] at e1
            have e3 : m - 1 - (m - 1 - q) = q := by omega
            rw [e3] at e1
            cases e1
            exact e2.mono (hH.mono q hq)
      | false =>
        dsimp only at h
        have h0 := putS_facts h; clear h; obtain ⟨a', h, h4, h5, h6⟩ := h0
        exact ih' (hH.step0 hM hi (by rw [hcl]; simp) ⟨a1, false, undefS, (r i).b, (r i).f⟩ h4 h5 h6 hH.nodup (fun p => ⟨.inl, fun g => g.resolve_right fun ⟨g, _⟩ => by rw [hcl] at g; cases g⟩) hnc hH.seenLoad (fun _ g => g) (fun _ g => by cases g) h1 h2 (fun _ => rfl) (fun g => by rw [hcl] at g; cases g) (fun _ g => by cases g) (fun g => by rw [hcl] at g; cases g)) (hsk' _) h
    | float =>
      simp only [hcl] at h
      have h0 := onlyC_ok hl hf h; clear h; obtain ⟨a1, h, h1, _⟩ := h0
      have h0 := wantG_ok (ν := ν) h; clear h; obtain ⟨b, h, h2⟩ := h0
      cases b with
      | true =>
        dsimp only at h
        have h0 := newC_ok (ν := ν) hE h; clear h; obtain ⟨bb, f, h, h3⟩ := h0
        rw [forceN_eq] at h
        have h0 := putS_facts h; clear h; obtain ⟨a', h, h4, h5, h6⟩ := h0
        refine ih' (hH.step0 hM hi (by rw [hcl]; simp) ⟨a1, true, f (n0 + i), bb, f⟩ h4 h5 h6 (List.nodup_cons.2 ⟨fun hmem => ?_, hH.nodup⟩) (fun p => ?_) hnc hH.seenLoad (fun _ g => g) (fun g => by rw [hcl] at g; cases g) h1 h2 (fun g => by cases g) (fun g => by rw [hcl] at g; cases g) (fun g => by rw [hcl] at g; cases g) (fun _ _ => ⟨rfl, h3⟩)) (hsk' _) h
        · obtain ⟨k, k1, k2, k3, k4⟩ := (hH.pend _).1 hmem
          have : i = k := congrArg Pend.i k4
          omega
        · constructor
          · intro g
            cases g with
            | head => exact .inr ⟨hcl, rfl, rfl⟩
            | tail _ g => exact .inl g
          · rintro (g | ⟨_, _, rfl⟩)
            · exact .tail _ g
            · exact .head _
      | false =>
        dsimp only at h
        have h0 := putS_facts h; clear h; obtain ⟨a', h, h4, h5, h6⟩ := h0
        exact ih' (hH.step0 hM hi (by rw [hcl]; simp) ⟨a1, false, undefS, (r i).b, (r i).f⟩ h4 h5 h6 hH.nodup (fun p => ⟨.inl, fun g => g.resolve_right fun ⟨_, g, _⟩ => by cases g⟩) hnc hH.seenLoad (fun _ g => g) (fun _ g => by cases g) h1 h2 (fun _ => rfl) (fun _ g => by cases g) (fun g => by rw [hcl] at g; cases g) (fun _ g => by cases g)) (hsk' _) h
    | loud =>
      simp only [hcl, forceN_eq] at h
      have h0 := onlyC_ok hl hf h; clear h; obtain ⟨a1, h, h1, _⟩ := h0
      have h0 := wantG_ok (ν := ν) h; clear h; obtain ⟨b, h, h2⟩ := h0
      cases b with
      | true =>
        dsimp only at h
        have h0 := commitK_ok h; clear h; obtain ⟨st', h, h3⟩ := h0
        have h0 := execC_loud hE hI hS h; clear h; obtain ⟨v, st2, h, h4⟩ := h0
        split at h
        case h_2 => cases h
        rename_i hnx
        have h0 := recheckK_ok (base := base) hE hH.seenLoad h; clear h; obtain ⟨h, h5⟩ := h0
        have h0 := putS_facts h; clear h; obtain ⟨a', h, h6, h7, h8⟩ := h0
        rw [← updS_ne S (q := m + 1) (x := 0) _ (by omega)]
        refine ih' (hH.step1 hM hi hcl ⟨a1, true, v, (r i).b, (r i).f⟩ h6 h7 h8 (Nat.le_of_ble_eq_true hnx) (hH.nodup.filter _) (fun p => ?_) h1 h2 (fun g => by cases g) (fun k o' hk g hc hw hbk _ => ?_) (fun _ => ⟨_, st', h3, fun p => ?_, hH.nodup.filter _, h4⟩) (fun g => by cases g)) (hsk' _) h
        · rw [List.mem_filter, bf_iff hb]
          simp [bitM]
        · exact h5 _ (hH.seen k o' hk g hc hw) (by
            have : ¬ mask.testBit k = true := fun e => hbk ((bf_iff hb k).2 e)
            simpa using this)
        · rw [List.mem_filter, bf_iff hb]
          simp [bitM]
      | false =>
        dsimp only at h
        have h0 := putS_facts h; clear h; obtain ⟨a', h, h6, h7, h8⟩ := h0
        rw [← updS_ne S (q := m + 1) (x := 0) _ (by omega)]
        refine ih' (hH.step1 hM hi hcl ⟨a1, false, undefS, (r i).b, (r i).f⟩ h6 h7 h8 (Nat.le_refl _) hH.nodup (fun p => by simp) h1 h2 (fun _ => rfl) (fun k o' hk g hc hw hbk hq => ?_) (fun g => by cases g) (fun _ => rfl)) (hsk' _) h
        have := hq m rfl (fun j j1 j2 => by
          have h1 := bf_lt hM k (by omega) j j2
          have := ordL_lt j1 (show j < i by omega)
          omega)
        rw [hH.last] at this
        exact this
end Go.Ev
namespace Go.Ev
open Go
variable {ν : Nat → Int} {P : Program} {E : Env} {base : Nat} {nt : Nat}

theorem flat_length (l : List C8) : (flat l).length = 8 * l.length := by
  induction l with
  | nil => rfl
  | cons c l ih => simp only [flat, C8.list, List.length_append, List.length_cons, List.length_nil, ih]; omega

theorem befK_run {e : String} {self : Self} {ops : List Oper} {K : List Nat → GF} {a : A} {st : St} {k : A → St → R} {out} (h : (befK (⟨fun _ _ _ _ => .err e⟩ : GF) 0 ops [] K).run self a st k = .ok out) :
    ∃ bs, (K bs).run self a st k = .ok out ∧ MaskOk ops bs := by
  rcases befK_ok (bad := (⟨fun _ _ _ _ => .err e⟩ : GF)) (l := ops) (pre := []) (bs := []) (k := K) ⟨rfl, (fun j o hj => by simp at hj), (fun j o hj => by simp at hj)⟩ with g | ⟨bs, g, hM⟩
  · rw [show ([] : List Oper).length = 0 from rfl] at g
    rw [g] at h; cases h
  · rw [show ([] : List Oper).length = 0 from rfl] at g
    rw [g] at h
    exact ⟨bs, h, hM⟩
theorem freshK_run {n : Nat} {self : Self} {K : List C8 → GF} {a : A} {st : St} {k : A → St → R} {out} (h : (freshK n K).run self a st k = .ok out) :
    ∃ cs, (K cs).run self a st k = .ok out ∧ (flat cs).length = 8 * n ∧ ∀ t, t < 8 * n → (flat cs)[t]? = some undefS := by
  obtain ⟨cs, g, h1, h2⟩ := freshK_ok n K
  rw [g] at h
  exact ⟨cs, h, h1, h2⟩

/-- regions that draw their order -/
theorem drawC_ok (hE : EOk P E ν) (hI : IntrOk P E ν base) {self : Self} (hS : SelfOk P E ν base self) {ops : List Oper} {a : A} {st : St} {k : A → St → R} {out} (h : (drawC E nt ops).run self a st k = .ok out) :
    ∃ a' st', k a' st' = .ok out ∧ ∀ σ w act F n (Q : Exit → Act → World → Prop) id, Sim P E ν base σ st w → RepA ν σ nt a act → OkF F →
      (∀ σ' w' act', Goes P E ν base σ st w σ' st' w' → RepA ν σ' nt a' act' → Q .normal act' w') → (Code.region id ops.toArray true).wpIn F n P Q act w := by
  unfold drawC at h
  have h0 := befK_run h; clear h; obtain ⟨bs, h, hM⟩ := h0
  split at h
  · cases h
  rename_i htm
  split at h
  · cases h
  rename_i hrow
  simp only [forceN_eq] at h
  have h0 := freshK_run h; clear h; obtain ⟨fresh, h, f1, f2⟩ := h0
  cases st with | mk h0 n0 =>
  dsimp only at h
  split at h
  case h_2 => cases h
  rename_i hnt
  have hnt := Nat.le_of_ble_eq_true hnt
  rw [lenL_eq, ← flat_length] at hnt
  rw [lenL_eq] at h
  have hstat : Stat ops bs := ⟨hM, fun i j x y hij hx hy hb => by
    obtain ⟨m, hm⟩ : ∃ m, bs[j]? = some m := ⟨bs[j]'(by rw [hM.len]; exact (List.getElem?_eq_some_iff.1 hy).1), by simp [hM.len, (List.getElem?_eq_some_iff.1 hy).1]⟩
    exact tmpsOk_ok (k := 0) hM.len.symm htm i j x y m hij hx hy hm (by
      rw [Nat.zero_add]
      have : ¬ m.testBit i = true := fun e => hb ((bf_iff hm i).2 e)
      simpa using this), hrow⟩
  have hH : Hist P E ν base nt ops bs n0 a (fun _ => ⟨a, false, undefS, .defer, fun _ => undefS⟩) (fun _ => ⟨h0, n0 + ops.length⟩) 0 0 a ⟨h0, n0 + ops.length⟩ [] [] [] := by
    refine ⟨Nat.zero_le _, rfl, rfl, fun _ _ => Nat.le_refl _, fun _ _ => Nat.le_refl _, rfl, fun x hx => by omega, rfl, fun t ht => ?_, .nil, fun p => ?_, (fun s hs => nomatch hs), fun k o hk => by omega, fun k o hk => by omega, fun k o hk => by omega, fun k hk => by omega, fun k o d hk => by omega, fun k o hk => by omega, fun k o hk => by omega, fun k o hk => by omega, fun k o hk => by omega, fun k o hk => by omega⟩
    · have : t < (flat a.tmps).length := by omega
      exact ⟨(flat a.tmps)[t], by simp [this], .inr ⟨fun i hi => by omega, by simp [this]⟩⟩
    · constructor
      · intro hp; cases hp
      · rintro ⟨k, hk, _⟩; omega
  obtain ⟨r, S, m, aF, stF, pend, seen, snaps, hF, hS0, hsk, hk⟩ := drC_hist hE hI hS hM (fresh := fresh) (by omega) (fun t ht => f2 t (by omega)) ops [] rfl hH (fun _ _ _ => rfl) h
  obtain ⟨st', h, hcm⟩ := commitK_ok hk
  have hord := hF.ord
  refine ⟨aF, st', h, fun σ w act F n Q id hs ha hOk hQ => ?_⟩
  refine machine_ok hE (hF.facts hstat hsk) (h0 := h0) hS0 (stF := st') (aF := aF) ⟨pend.filter (bitM Option.none), ?_, fun p => ?_, hF.nodup.filter _⟩ hF.marks hF.vals σ w act F n Q id hs ha hOk hQ
  · rw [← hord, hF.last]; exact hcm
  · rw [List.mem_filter, hF.pend, ← hord]
    constructor
    · rintro ⟨⟨k, _, k2, k3, k4⟩, _⟩; exact ⟨k, k2, k3, k4⟩
    · rintro ⟨k, k2, k3, k4⟩
      exact ⟨⟨k, (let ⟨_, g, _⟩ := k2; (List.getElem?_eq_some_iff.1 g).1), k2, k3, k4⟩, rfl⟩
end Go.Ev
namespace Go.Ev
open Go
variable {ν : Nat → Int} {P : Program} {E : Env} {base : Nat} {nt : Nat}

theorem stepR_scope {b : Frame} {a : Act} {k : List Item} {cs : List Frame} {w : World} {c : Code} : step P (lone (b.atR a (.code (.scope c) :: k)) cs w) = .next (lone (b.atR a (.code c :: .inScope c :: k)) cs w) :=
  step_lone_go (by simp [stepG, stepG.exec, Frame.atR])
theorem stepR_inScope {b : Frame} {a : Act} {k : List Item} {cs : List Frame} {w : World} {c : Code} : step P (lone (b.atR a (.inScope c :: k)) cs w) = .next (lone (b.atR a k) cs w) :=
  step_lone_go (by simp [stepG, stepG.exec, Frame.atR])
theorem wpIn_scope_of {F : Fence} {n : Nat} {b : Code} {Q : Exit → Act → World → Prop} {a : Act} {w : World} (h : ScopeWp F n P b b Q a w) : (Code.scope b).wpIn F n P Q a w :=
  fun fr k cs hro hb hr => let ⟨e, a', w', q, r⟩ := h fr k cs hro hb hr; ⟨e, a', w', q, .of_steps (.one (fenced_calm hb hr rfl) stepR_scope) r⟩
theorem wpIn_loop_of {F : Fence} {n : Nat} {b : Code} {Q : Exit → Act → World → Prop} {a : Act} {w : World} (h : LoopWp F n P b Q a w) : (Code.loop b).wpIn F n P Q a w :=
  fun fr k cs hro hb hr => let ⟨e, a', w', q, r⟩ := h fr k cs hro hb hr; ⟨e, a', w', q, .of_steps (.one (fenced_calm hb hr rfl) stepR_loop) r⟩

theorem loopWp_of {F : Fence} {n : Nat} {c : Code} {Q : Exit → Act → World → Prop} {a : Act} {w : World} (h : c.wpIn F n P (Exit.then (LoopWp F n P c Q) Q) a w) : LoopWp F n P c Q a w := by
  intro b k cs hro hb hr
  obtain ⟨e, a₁, w₁, hq, harr⟩ := h b (.inLoop c :: k) cs hro hb hr
  cases e with
  | normal =>
    obtain ⟨e₂, a₂, w₂, hq₂, harr₂⟩ := hq b k cs hro hb hr
    exact ⟨e₂, a₂, w₂, hq₂, .of_steps (StepsIn.trans harr (.one (fenced_calm hb hr rfl) stepR_inLoop)) harr₂⟩
  | exit id => exact ⟨_, a₁, w₁, hq, .pass (x := .inLoop c) rfl (fun _ _ => .inl (by simp)) harr⟩
  | goto l => exact ⟨_, a₁, w₁, hq, .pass (x := .inLoop c) rfl (fun _ _ => .inl (by simp)) harr⟩
  | ret => exact ⟨_, a₁, w₁, hq, .pass (x := .inLoop c) rfl (fun _ _ => .inl (by simp)) harr⟩
  | panic ch => exact ⟨_, a₁, w₁, hq, .pass (x := .inLoop c) rfl (fun _ _ => .inl (by simp)) harr⟩
  | outgrown => exact ⟨_, a₁, w₁, hq, .pass (x := .inLoop c) rfl (fun _ _ => .inl (by simp)) harr⟩

/-- what is asked of a scope's rest -/
def scopePost (F : Fence) (n : Nat) (P : Program) (b : Code) (Q : Exit → Act → World → Prop) : Exit → Act → World → Prop
  | .goto l, a, w => match findLabel b l with
    | some rest => ScopeWp F n P rest b Q a w
    | none => Q (.goto l) a w
  | e, a, w => Q e a w

theorem scopeWp_of {F : Fence} {n : Nat} {c b : Code} {Q : Exit → Act → World → Prop} {a : Act} {w : World} (h : c.wpIn F n P (scopePost F n P b Q) a w) : ScopeWp F n P c b Q a w := by
  intro fr k cs hro hb hr
  obtain ⟨e, a₁, w₁, hq, harr⟩ := h fr (.inScope b :: k) cs hro hb hr
  cases e with
  | normal => exact ⟨.normal, a₁, w₁, hq, StepsIn.trans harr (.one (fenced_calm hb hr rfl) stepR_inScope)⟩
  | exit id =>
    have hx : exitTo id (.inScope b :: k) = exitTo id k := by simp [exitTo]
    exact ⟨.exit id, a₁, w₁, hq, fun k' hk => harr.1 k' (by rw [hx]; exact hk), fun hr' hk => harr.2 hr' (by rw [hx]; exact hk)⟩
  | goto l =>
    simp only [scopePost] at hq
    split at hq
    · rename_i rest hf
      obtain ⟨e₂, a₂, w₂, hq₂, harr₂⟩ := hq fr k cs hro hb hr
      exact ⟨e₂, a₂, w₂, hq₂, .of_steps (harr.1 _ (by simp [gotoIn, hf])) harr₂⟩
    · rename_i hf
      have hx : gotoIn l (.inScope b :: k) = gotoIn l k := by simp [gotoIn, hf]
      exact ⟨.goto l, a₁, w₁, hq, fun k' hk => harr.1 k' (by rw [hx]; exact hk), fun hr' hk => harr.2 hr' (by rw [hx]; exact hk)⟩
  | ret => exact ⟨_, a₁, w₁, hq, harr⟩
  | panic ch => exact ⟨_, a₁, w₁, hq, harr⟩
  | outgrown => exact ⟨_, a₁, w₁, hq, harr⟩

theorem ltAll_ok {l : List Tmp} (h : ltAll nt l = true) : ∀ t ∈ l, t < nt := by
  induction l with
  | nil => intro t ht; cases ht
  | cons a l ih =>
    simp only [ltAll] at h
    split at h
    · rename_i hb
      intro t ht
      cases ht with
      | head => exact Nat.le_of_ble_eq_true hb
      | tail _ ht => exact ih h t ht
    · cases h

theorem rangeFuncK_ok (hI : IntrOk P E ν base) {self : Self} (hS : SelfOk P E ν base self) {fn : FuncId} {F0 : Func} (hF0 : P.funcs[fn]? = some F0) {r : Option Nat} {f : Operand} {params : Array Tmp} (hps : ∀ t ∈ params.toList, t < F0.ntmps) {as bd : Code}
    {a : A} {st : St} {k : Ex → A → St → R} {out} (h : rangeFuncK E F0.ntmps self r fn f params.toList as bd a st k = .ok out) :
    ∃ e a' st', k e a' st' = .ok out ∧ Lands P E ν base F0.ntmps (.rangeFunc f params as bd) r a st e a' st' := by
  cases a with | mk tmps marks =>
  unfold rangeFuncK at h
  dsimp only at h
  -- the part that both kinds share
  have go : ∀ {d : Nat} {marks' : List Nat} {st0 : St}, (newK st0 (.loop .ready none fn tmps params.toList as bd d) fun l st =>
      (opC F0.ntmps f).run ⟨tmps, marks⟩ fun fv => match fv with
       | .func (.func g) first captured => appLK [.yield l] captured fun a1 => appLK first a1 fun a2 => (callC E g).run self a2 st fun _ st =>
        blockK st l fun b => match b with
        | .loop .busy _ _ _ _ _ _ _ => .err "endLoop busy"
        | .loop _ pending fn' tmps' params' assign' body' d' =>
          setK st l (some (.loop .exhausted pending fn' tmps' params' assign' body' d')) fun st => match pending with
          | none => k .normal ⟨tmps, marks'⟩ st
          | some c => self.code fn c r ⟨tmps, marks'⟩ st k
        | _ => .err "endLoop"
       | _ => .err "rangeFunc what") = .ok out →
      ∃ e a' st', k e a' st' = .ok out ∧ ∀ σ w act F n (Q : Exit → Act → World → Prop) (fn' : FuncId) D y (mark : List Deferred), Sim P E ν base σ st0 w → RepA ν σ F0.ntmps ⟨tmps, marks⟩ act → InF σ r F → σ d = some (D, y) →
        (∀ τ, σ.le τ → RepA ν τ F0.ntmps ⟨tmps, marks'⟩ { act with defers := mark ++ act.defers }) →
        (∀ σ' w' act', Goes P E ν base σ st0 w σ' st' w' → RepA ν σ' F0.ntmps a' act' → Q e.out act' w') →
        ∃ (dd : Deferred) (g : FuncId) (args : Array Value), (resolve act.eval (rangeCall f w.heap.size) 0).run P (w.alloc (.loop ⟨.ready, none, fn', act.tmps, params, as, bd, D⟩)) = .ok dd (w.alloc (.loop ⟨.ready, none, fn', act.tmps, params, as, bd, D⟩)) ∧
          (invoke dd.target dd.args).run P (w.alloc (.loop ⟨.ready, none, fn', act.tmps, params, as, bd, D⟩)) = .ok (.enter g args) (w.alloc (.loop ⟨.ready, none, fn', act.tmps, params, as, bd, D⟩)) ∧
          CallsIn F (n - 1) P g args (w.alloc (.loop ⟨.ready, none, fn', act.tmps, params, as, bd, D⟩)) (rangePost F n P w.heap.size Q { act with defers := mark ++ act.defers }) := by
    intro d marks' st0 h
    have h0 := newK_goes (P := P) (E := E) (ν := ν) (base := base) h; clear h; obtain ⟨st1, h, hnew⟩ := h0
    have h0 := opC_ok (ν := ν) h; clear h; obtain ⟨fv, h, hf⟩ := h0
    split at h
    case h_2 => cases h
    rename_i g first captured
    rw [appLK_eq, appLK_eq] at h
    have h0 := callC_ok hI hS h; clear h; obtain ⟨v, st2, h, hcall⟩ := h0
    have h0 := blockK_ok h; clear h; obtain ⟨b2, hb2, h⟩ := h0
    have hloop : ∃ s p fn2 tmps2 params2 assign2 body2 d2, b2 = .loop s p fn2 tmps2 params2 assign2 body2 d2 ∧ s ≠ .busy ∧
        (setK st2 st0.next (some (.loop .exhausted p fn2 tmps2 params2 assign2 body2 d2)) fun st => match p with
          | none => k .normal ⟨tmps, marks'⟩ st
          | some c => self.code fn c r ⟨tmps, marks'⟩ st k) = .ok out := by
      cases b2 <;> (try dsimp only at h) <;> try (cases h; done)
      rename_i s p fn2 tmps2 params2 assign2 body2 d2
      refine ⟨s, p, fn2, tmps2, params2, assign2, body2, d2, rfl, ?_⟩
      cases s
      case busy => cases h
      all_goals exact ⟨by simp, h⟩
    clear h
    obtain ⟨s, p, fn2, tmps2, params2, assign2, body2, d2, rfl, hne, h⟩ := hloop
    have h0 := setK_goes (P := P) (E := E) (ν := ν) (base := base) h; clear h; obtain ⟨st3, h, hset⟩ := h0
    -- the way up to the loop's end
    have up : ∀ σ w act F n (Q : Exit → Act → World → Prop) (fn' : FuncId) D y (mark : List Deferred), Sim P E ν base σ st0 w → RepA ν σ F0.ntmps ⟨tmps, marks⟩ act → InF σ r F → σ d = some (D, y) →
        (∀ σ' w', Goes P E ν base σ st0 w σ' st3 w' → (match p with
          | none => Q .normal { act with defers := mark ++ act.defers } w'
          | some c => c.wpIn F n P Q { act with defers := mark ++ act.defers } w')) →
        ∃ (dd : Deferred) (g : FuncId) (args : Array Value), (resolve act.eval (rangeCall f w.heap.size) 0).run P (w.alloc (.loop ⟨.ready, none, fn', act.tmps, params, as, bd, D⟩)) = .ok dd (w.alloc (.loop ⟨.ready, none, fn', act.tmps, params, as, bd, D⟩)) ∧
          (invoke dd.target dd.args).run P (w.alloc (.loop ⟨.ready, none, fn', act.tmps, params, as, bd, D⟩)) = .ok (.enter g args) (w.alloc (.loop ⟨.ready, none, fn', act.tmps, params, as, bd, D⟩)) ∧
          CallsIn F (n - 1) P g args (w.alloc (.loop ⟨.ready, none, fn', act.tmps, params, as, bd, D⟩)) (rangePost F n P w.heap.size Q { act with defers := mark ++ act.defers }) := by
      intro σ w act F n Q fn' D y mark hs ha hF hd hQ
      have hle : σ.le (σ.add st0.next (w.heap.size, 0)) := Sg.le_add _ (hs.fresh _ (Nat.le_refl _))
      have go1 := hnew σ w (.loop ⟨.ready, none, fn', act.tmps, params, as, bd, D⟩) 0 hs ⟨act.tmps, D, y, fn', rfl, hle _ _ hd, F0, hF0, ha.tmps.mono hle, hps⟩
      have hfv := hf σ act ha
      simp only [Rep] at hfv
      obtain ⟨Fs, C, e1, e2, e3⟩ := hfv
      refine ⟨⟨.fn (.func g) C, Fs ++ #[.func (.yield w.heap.size) #[] #[]]⟩, g, Fs ++ #[.func (.yield w.heap.size) #[] #[]] ++ C, ?_, ?_, ?_⟩
      · simp only [resolve, e1]
        simp [Deferred.ofValue, Act.eval]
      · simp [invoke, hcall.1]
      · refine hF.ok.calls ?_
        refine hcall.2 _ _ _ (n - 1) _ go1.2 (by
          have e : (Fs ++ #[Value.func (.yield w.heap.size) #[] #[]] ++ C).toList = Fs.toList ++ ([Value.func (.yield w.heap.size) #[] #[]] ++ C.toList) := by simp
          rw [e]
          refine (e2.mono hle).append (RepL.append (RepL.cons ?_ RepL.nil) (e3.mono hle))
          simp only [Rep]
          exact ⟨w.heap.size, 0, Sg.add_self _ _ _, rfl⟩) (fun σ2 w2 V go2 hV => ?_)
        have hl2 : σ2 st0.next = some (w.heap.size, 0) := go2.le go1.2 _ _ (Sg.add_self _ _ _)
        obtain ⟨V2, D2, y2, fn2', m1, m2, F2, m3, m4, m5⟩ := round_out go2.2 hb2 hl2
        have go3 := hset σ2 w2 _ (.loop ⟨.exhausted, p, fn2', V2, params2.toArray, assign2, body2, D2⟩) w.heap.size 0 go2.2 hb2 hl2 (fun c e => by cases e; exact ⟨V2, D2, y2, fn2', rfl, m2, F2, m3, m4, m5⟩)
        refine ⟨p, _, run_endLoop m1 hne, ?_⟩
        have := hQ σ2 _ ((go1.trans go2).trans go3)
        cases p with
        | none => exact this
        | some c => exact this
    cases p with
    | none =>
      dsimp only at h
      refine ⟨.normal, _, st3, h, fun σ w act F n Q fn' D y mark hs ha hF hd hm hQ => up σ w act F n Q fn' D y mark hs ha hF hd (fun σ' w' go => ?_)⟩
      exact hQ σ' w' _ go (hm σ' (go.le hs))
    | some c =>
      dsimp only at h
      obtain ⟨e, a', st', h, F0', hF0', hcode⟩ := hS.code h
      rw [hF0] at hF0'; cases hF0'
      refine ⟨e, a', st', h, fun σ w act F n Q fn' D y mark hs ha hF hd hm hQ => up σ w act F n Q fn' D y mark hs ha hF hd (fun σ' w' go => ?_)⟩
      exact hcode σ' w' _ F n Q go.2 (hm σ' (go.le hs)) (hF.mono (go.le hs)) (fun σ'' w'' act'' go' ha' => hQ σ'' w'' act'' (go.trans go') ha')
  cases r with
  | some l0 =>
    dsimp only at h
    have h0 := blockK_ok h; clear h; obtain ⟨b0, hb0, h⟩ := h0
    cases b0 <;> (try dsimp only at h) <;> try (cases h; done)
    rename_i s0 p0 fn0 tmps0 params0 assign0 body0 d
    obtain ⟨e, a', st', h, h1⟩ := go h
    refine ⟨e, a', st', h, fun σ w act F n Q hs ha hF hQ => wpIn_rangeFunc fun fn' _ => ?_⟩
    have hF' := hF
    obtain ⟨b, z, hl, rfl⟩ := hF'
    obtain ⟨V, D, y, fn0', m1, m2, F2, m3, m4, m5⟩ := round_out hs hb0 hl
    obtain ⟨dd, g, args, r1, r2, r3⟩ := h1 σ w act _ n Q fn' D y [] hs ha hF m2 (fun τ hle => ha.mono hle) hQ
    exact ⟨_, [], _, dd, _, g, args, _, run_enterLoop_inner m1 fn' act.tmps params as bd, r1, fun _ _ => trivial, r2, (fun e => nomatch e), r3⟩
  | none =>
    dsimp only at h
    have h0 := newK_goes (P := P) (E := E) (ν := ν) (base := base) h; clear h; obtain ⟨st1, h, hnew⟩ := h0
    obtain ⟨e, a', st', h, h1⟩ := go h
    refine ⟨e, a', st', h, fun σ w act F n Q hs ha hF hQ => wpIn_rangeFunc fun fn' _ => ?_⟩
    have hF' := hF
    cases hF'
    have go1 := hnew σ w (.deferred (some [])) 0 hs rfl
    have hle : σ.le (σ.add st.next (w.heap.size, 0)) := Sg.le_add _ (hs.fresh _ (Nat.le_refl _))
    obtain ⟨Ds, q1, q2, q3⟩ := ha.defers
    obtain ⟨dd, g, args, r1, r2, r3⟩ := h1 _ _ act Fence.wide n Q fn' w.heap.size 0 [{ target := .collected w.heap.size, args := #[] }] go1.2 (ha.mono hle) rfl (Sg.add_self _ _ _)
      (fun τ hle' => ⟨ha.tmps.mono (Sg.le_trans hle hle'), w.heap.size :: Ds, by simp [q1], by simp [q2], fun i m D em eD => by
        cases i with
        | zero => simp at em eD; subst em; subst eD; exact ⟨0, hle' _ _ (Sg.add_self _ _ _)⟩
        | succ i => simp at em eD; obtain ⟨z, hz⟩ := q3 i m D em eD; exact ⟨z, hle' _ _ (hle _ _ hz)⟩⟩)
      (fun σ' w' act' go' ha' => hQ σ' w' act' (go1.trans go') ha')
    have hsz : ({ w with heap := w.heap.push (.deferred (some [])) } : World).heap.size = w.heap.size + 1 := by simp
    rw [hsz] at r1 r3
    exact ⟨_, _, _, dd, _, g, args, _, run_enterLoop_outer fn' act.tmps params as bd, r1, fun _ _ => trivial, r2, (fun e => nomatch e), r3⟩

theorem codeC_ok (hE : EOk P E ν) (hI : IntrOk P E ν base) {self : Self} (hS : SelfOk P E ν base self) {fn : FuncId} {F0 : Func} (hF0 : P.funcs[fn]? = some F0) :
    ∀ (c : Code) {r : Option Nat} {a : A} {st : St} {k : Ex → A → St → R} {out}, (codeC E fn F0.ntmps c).run self r a st k = .ok out →
      ∃ e a' st', k e a' st' = .ok out ∧ Lands P E ν base F0.ntmps c r a st e a' st' := by
  intro c
  induction c with
  | skip => intro r a st k out h; exact ⟨.normal, a, st, h, fun σ w act F n Q hs ha hF hQ => wpIn_skip (hQ σ w act (.refl hs) ha)⟩
  | label l => intro r a st k out h; exact ⟨.normal, a, st, h, fun σ w act F n Q hs ha hF hQ => wpIn_label (hQ σ w act (.refl hs) ha)⟩
  | exit id => intro r a st k out h; exact ⟨.exit id, a, st, h, fun σ w act F n Q hs ha hF hQ => wpIn_exit (hQ σ w act (.refl hs) ha)⟩
  | goto id => intro r a st k out h; exact ⟨.goto id, a, st, h, fun σ w act F n Q hs ha hF hQ => wpIn_goto (hQ σ w act (.refl hs) ha)⟩
  | ret => intro r a st k out h; exact ⟨.ret, a, st, h, fun σ w act F n Q hs ha hF hQ => wpIn_ret (hQ σ w act (.refl hs) ha)⟩
  | refuse s => intro r a st k out h; cases h
  | region id ops draw =>
    intro r a st k out h
    unfold codeC at h
    cases draw with
    | false =>
      dsimp only at h
      obtain ⟨a', st', h, h1⟩ := regC_ok hE hI hS _ h
      exact ⟨.normal, a', st', h, fun σ w act F n Q hs ha hF hQ => wpIn_region_list (by simpa using h1 σ w act F n Q hs ha hF.ok hQ)⟩
    | true =>
      dsimp only at h
      obtain ⟨a', st', h, h1⟩ := drawC_ok hE hI hS h
      exact ⟨.normal, a', st', h, fun σ w act F n Q hs ha hF hQ => by simpa using h1 σ w act F n Q id hs ha hF.ok hQ⟩
  | seq x y ihx ihy =>
    intro r a st k out h
    unfold codeC at h
    dsimp only at h
    have h0 := ihx h; clear h; obtain ⟨e, a1, st1, h, h1⟩ := h0
    cases e with
    | normal =>
      dsimp only at h
      obtain ⟨e, a2, st2, h, h2⟩ := ihy h
      refine ⟨e, a2, st2, h, fun σ w act F n Q hs ha hF hQ => wpIn_seq (h1 σ w act F n _ hs ha hF fun σ' w' act' go ha' => ?_)⟩
      exact h2 σ' w' act' F n Q go.2 ha' (hF.mono (go.le hs)) fun σ'' w'' act'' go' ha'' => hQ σ'' w'' act'' (go.trans go') ha''
    | exit id => exact ⟨.exit id, a1, st1, h, fun σ w act F n Q hs ha hF hQ => wpIn_seq (h1 σ w act F n _ hs ha hF hQ)⟩
    | goto id => exact ⟨.goto id, a1, st1, h, fun σ w act F n Q hs ha hF hQ => wpIn_seq (h1 σ w act F n _ hs ha hF hQ)⟩
    | ret => exact ⟨.ret, a1, st1, h, fun σ w act F n Q hs ha hF hQ => wpIn_seq (h1 σ w act F n _ hs ha hF hQ)⟩
  | cond o x y ihx ihy =>
    intro r a st k out h
    unfold codeC at h
    dsimp only at h
    have h0 := opC_ok (ν := ν) h; clear h; obtain ⟨v, h, hv⟩ := h0
    split at h
    · obtain ⟨e, a2, st2, h, h2⟩ := ihx h
      refine ⟨e, a2, st2, h, fun σ w act F n Q hs ha hF hQ => wpIn_cond_true (by have := hv σ act ha; simpa only [Rep] using this) (h2 σ w act F n Q hs ha hF hQ)⟩
    · obtain ⟨e, a2, st2, h, h2⟩ := ihy h
      refine ⟨e, a2, st2, h, fun σ w act F n Q hs ha hF hQ => wpIn_cond_false (by have := hv σ act ha; simpa only [Rep] using this) (h2 σ w act F n Q hs ha hF hQ)⟩
    · cases h
  | block id b ih =>
    intro r a st k out h
    unfold codeC at h
    dsimp only at h
    have h0 := ih h; clear h; obtain ⟨e, a1, st1, h, h1⟩ := h0
    cases e with
    | normal => exact ⟨.normal, a1, st1, h, fun σ w act F n Q hs ha hF hQ => wpIn_block (h1 σ w act F n _ hs ha hF hQ)⟩
    | goto l => exact ⟨.goto l, a1, st1, h, fun σ w act F n Q hs ha hF hQ => wpIn_block (h1 σ w act F n _ hs ha hF hQ)⟩
    | ret => exact ⟨.ret, a1, st1, h, fun σ w act F n Q hs ha hF hQ => wpIn_block (h1 σ w act F n _ hs ha hF hQ)⟩
    | exit j =>
      dsimp only at h
      split at h
      · rename_i hj
        have hj := Nat.eq_of_beq_eq_true hj
        subst hj
        exact ⟨.normal, a1, st1, h, fun σ w act F n Q hs ha hF hQ => wpIn_block (h1 σ w act F n _ hs ha hF fun σ' w' act' go ha' => by
          simp only [Ex.out, Exit.inBlock, if_true]; exact hQ σ' w' act' go ha')⟩
      · rename_i hj
        have hj : j ≠ id := fun e => by subst e; simp at hj
        exact ⟨.exit j, a1, st1, h, fun σ w act F n Q hs ha hF hQ => wpIn_block (h1 σ w act F n _ hs ha hF fun σ' w' act' go ha' => by
          simp only [Ex.out, Exit.inBlock, hj, if_false]; exact hQ σ' w' act' go ha')⟩
  | loop b ih =>
    intro r a st k out h
    unfold codeC at h
    dsimp only at h
    obtain ⟨e, a1, st1, h, F0', hF0', h1⟩ := hS.loop h
    rw [hF0] at hF0'; cases hF0'
    exact ⟨e, a1, st1, h, fun σ w act F n Q hs ha hF hQ => wpIn_loop_of (h1 σ w act F n Q hs ha hF hQ)⟩
  | scope b ih =>
    intro r a st k out h
    unfold codeC at h
    dsimp only at h
    have h0 := ih h; clear h; obtain ⟨e, a1, st1, h, h1⟩ := h0
    cases e with
    | normal => exact ⟨.normal, a1, st1, h, fun σ w act F n Q hs ha hF hQ => wpIn_scope_of (scopeWp_of (h1 σ w act F n _ hs ha hF hQ))⟩
    | ret => exact ⟨.ret, a1, st1, h, fun σ w act F n Q hs ha hF hQ => wpIn_scope_of (scopeWp_of (h1 σ w act F n _ hs ha hF hQ))⟩
    | exit l => exact ⟨.exit l, a1, st1, h, fun σ w act F n Q hs ha hF hQ => wpIn_scope_of (scopeWp_of (h1 σ w act F n _ hs ha hF hQ))⟩
    | goto l =>
      dsimp only at h
      split at h
      · rename_i rest hf
        obtain ⟨e, a2, st2, h, F0', hF0', h2⟩ := hS.scope h
        rw [hF0] at hF0'; cases hF0'
        refine ⟨e, a2, st2, h, fun σ w act F n Q hs ha hF hQ => wpIn_scope_of (scopeWp_of (h1 σ w act F n _ hs ha hF fun σ' w' act' go ha' => ?_))⟩
        simp only [Ex.out, scopePost, hf]
        exact h2 σ' w' act' F n Q go.2 ha' (hF.mono (go.le hs)) fun σ'' w'' act'' go' ha'' => hQ σ'' w'' act'' (go.trans go') ha''
      · rename_i hf
        refine ⟨.goto l, a1, st1, h, fun σ w act F n Q hs ha hF hQ => wpIn_scope_of (scopeWp_of (h1 σ w act F n _ hs ha hF fun σ' w' act' go ha' => ?_))⟩
        simp only [Ex.out, scopePost, hf]
        exact hQ σ' w' act' go ha'
  | rangeFunc f ps as bd =>
    intro r a st k out h
    unfold codeC at h
    split at h
    · cases h
    rename_i hlt
    exact rangeFuncK_ok hI hS hF0 (ltAll_ok hlt) h
end Go.Ev
namespace Go.Ev
open Go
variable {ν : Nat → Int} {P : Program} {E : Env} {base : Nat} {nt : Nat}

theorem take1_eq (l : List SV) (k : SV → List SV → R) : take1 l k = k (l[0]?.getD undefS) (l.drop 1) := by cases l <;> rfl
theorem tmpsK_ok : ∀ {n : Nat} {l : List SV} {k : List C8 → R} {out}, tmpsK n l k = .ok out → ∃ cs, k cs = .ok out ∧ ∀ t, t < 8 * n → (flat cs)[t]? = some (l[t]?.getD undefS) := by
  intro n
  induction n with
  | zero => intro l k out h; exact ⟨[], h, fun t ht => by omega⟩
  | succ n ih =>
    intro l k out h
    have step : ∀ {l' : List SV} {kk : List C8 → R}, (take1 l' fun a l => take1 l fun b l => take1 l fun c l => take1 l fun d l => take1 l fun e l => take1 l fun f l => take1 l fun g l => take1 l fun h l =>
        tmpsK n l (fun cs => kk (.mk a b c d e f g h :: cs))) = .ok out → ∃ cs, kk cs = .ok out ∧ ∀ t, t < 8 * (n + 1) → (flat cs)[t]? = some (l'[t]?.getD undefS) := by
      intro l' kk h
      simp only [take1_eq] at h
      obtain ⟨cs, h1, h2⟩ := ih h
      refine ⟨_, h1, fun t ht => ?_⟩
      simp only [flat, C8.list]
      by_cases g : t < 8
      · match t, g with
        | 0, _ => simp
        | 1, _ => simp
        | 2, _ => simp
        | 3, _ => simp
        | 4, _ => simp
        | 5, _ => simp
        | 6, _ => simp
        | 7, _ => simp
      · rw [List.getElem?_append_right (by simp; omega)]
        have := h2 (t - 8) (by omega)
        simp only [List.length_cons, List.length_nil]
        rw [this]
        simp only [List.getElem?_drop]
        congr 3; omega
    cases l with
    | nil =>
      simp only [tmpsK] at h
      obtain ⟨cs, h1, h2⟩ := ih h
      refine ⟨_, h1, fun t ht => ?_⟩
      simp only [flat, u8, C8.list]
      by_cases g : t < 8
      · match t, g with
        | 0, _ => simp
        | 1, _ => simp
        | 2, _ => simp
        | 3, _ => simp
        | 4, _ => simp
        | 5, _ => simp
        | 6, _ => simp
        | 7, _ => simp
      · rw [List.getElem?_append_right (by simp; omega)]
        have := h2 (t - 8) (by omega)
        simp only [List.length_cons, List.length_nil]
        rw [this]; simp
    | cons x l => exact step h

theorem closeK_ok : ∀ {ms : List Nat} {st : St} {k : St → R} {out}, closeK ms st k = .ok out →
    ∃ st', k st' = .ok out ∧ ∀ σ w n fn tmps R (Ds : List Nat), Sim P E ν base σ st w → Ds.length = ms.length → (∀ (i m D : Nat), ms[i]? = some m → Ds[i]? = some D → ∃ z, σ m = some (D, z)) →
      (∀ w', Goes P E ν base σ st w σ st' w' → LeavesInM Fence.wide n P fn tmps R [] .returning w') → LeavesInM Fence.wide n P fn tmps R (Ds.map fun D => { target := .collected D, args := #[] }) .returning w := by
  intro ms
  induction ms with
  | nil =>
    intro st k out h
    refine ⟨st, h, fun σ w n fn tmps R Ds hs hl hD hR => ?_⟩
    have : Ds = [] := List.length_eq_zero_iff.1 (by simpa using hl)
    subst this
    exact hR w (.refl hs)
  | cons m ms ih =>
    intro st k out h
    simp only [closeK] at h
    have h0 := blockK_ok h; clear h; obtain ⟨b, hb, h⟩ := h0
    cases b <;> (try dsimp only at h) <;> try (cases h; done)
    have h0 := setK_goes (P := P) (E := E) (ν := ν) (base := base) h; clear h; obtain ⟨st1, h, hset⟩ := h0
    obtain ⟨st2, h, h1⟩ := ih h
    refine ⟨st2, h, fun σ w n fn tmps R Ds hs hl hD hR => ?_⟩
    cases Ds with
    | nil => cases hl
    | cons D Ds =>
      obtain ⟨z, hz⟩ := hD 0 m D rfl rfl
      obtain ⟨bl, z', o, g1, g2, g3, g4⟩ := hs.blk m _ hb
      rw [hz] at g1; cases g1
      have g4 : o = .deferred (some []) := g4
      subst g4
      have go := hset σ w _ (.deferred none) D z hs hb hz (fun c e => nomatch e)
      simp only [List.map_cons, LeavesInM]
      refine ⟨by simp, .inl ⟨D, _, rfl, run_takeDeferred g3, ?_⟩⟩
      exact h1 σ _ n fn tmps R Ds go.2 (by simpa using hl) (fun i m' D' e1 e2 => hD (i + 1) m' D' (by simpa using e1) (by simpa using e2)) (fun w' go' => hR w' (go.trans go'))

def readRV (tmps : Array Value) : ResultVar → Sem Value
  | .tmp t => pure (tmps.getD t undef)
  | .cell a t => do loadVar t (← asAddr (tmps.getD a undef))
theorem readRV_list_cons {tmps : Array Value} {x : ResultVar} {l : List ResultVar} {w : World} {V : Value} {Vs : List Value} (h1 : (readRV tmps x).run P w = .ok V w) (h2 : (l.mapM (readRV tmps)).run P w = .ok Vs w) :
    ((x :: l).mapM (readRV tmps)).run P w = .ok (V :: Vs) w := by
  rw [List.mapM_cons]
  simp only [Sem.run_bind, h1, Result.andThen_ok, h2, Sem.run_pure]

theorem resultsC_ok (hE : EOk P E ν) : ∀ {l : List ResultVar} {a : A} {st : St} {k : List SV → R} {out}, (resultsC E nt l).run a st k = .ok out →
    ∃ vs, k vs = .ok out ∧ ∀ σ w act, Sim P E ν base σ st w → RepA ν σ nt a act →
      ∃ Vs : List Value, (l.mapM (readRV act.tmps)).run P w = .ok Vs w ∧ RepL ν σ vs Vs := by
  intro l
  induction l with
  | nil => intro a st k out h; exact ⟨[], h, fun σ w act hs ha => ⟨[], rfl, RepL.nil⟩⟩
  | cons x l ih =>
    intro a st k out h
    cases x with
    | tmp t =>
      simp only [resultsC] at h
      have h0 := opC_ok (ν := ν) h; clear h; obtain ⟨v, h, h1⟩ := h0
      obtain ⟨vs, h, h2⟩ := ih h
      refine ⟨_, h, fun σ w act hs ha => ?_⟩
      obtain ⟨Vs, r1, r2⟩ := h2 σ w act hs ha
      exact ⟨act.tmps.getD t undef :: Vs, readRV_list_cons rfl r1, RepL.cons (h1 σ act ha) r2⟩
    | cell x t =>
      simp only [resultsC] at h
      have h0 := opC_ok (ν := ν) h; clear h; obtain ⟨p, h, h1⟩ := h0
      have h0 := loadC_ok (base := base) hE h; clear h; obtain ⟨v, h, h3⟩ := h0
      obtain ⟨vs, h, h2⟩ := ih h
      refine ⟨_, h, fun σ w act hs ha => ?_⟩
      obtain ⟨Vs, r1, r2⟩ := h2 σ w act hs ha
      obtain ⟨U, _, ⟨ad, e1, e2⟩, r3⟩ := h3 σ w _ hs (h1 σ act ha)
      have e1 : act.tmps.getD x undef = .pointer (some ad) := e1
      refine ⟨U :: Vs, readRV_list_cons ?_ r1, RepL.cons r3 r2⟩
      simp only [readRV, e1, asAddr, Sem.run_bind, Sem.run_pure, Result.andThen_ok, e2]

theorem results_run {fn : Func} {tmps : Array Value} {Vs : List Value} {w : World} (h : (fn.results.toList.mapM (readRV tmps)).run P w = .ok Vs w) :
    (results fn tmps).run P w = .ok (if h : Vs.toArray.size = 1 then Vs.toArray[0] else .tuple Vs.toArray) w := by
  have e : results fn tmps = (do let vs ← fn.results.mapM (readRV tmps); pure (if h : vs.size = 1 then vs[0] else .tuple vs)) := by
    unfold results
    congr 2
  rw [e, Array.mapM_eq_mapM_toList]
  simp only [Sem.run_bind, map_eq_pure_bind, Sem.run_pure, h, Result.andThen_ok]

theorem funcC_ok (hE : EOk P E ν) (hI : IntrOk P E ν base) {self : Self} (hS : SelfOk P E ν base self) {f : FuncId} {args : List SV} {st : St} {k : SV → St → R} {out} (h : (funcC E f).run self args st k = .ok out) :
    ∃ v st', k v st' = .ok out ∧ CallLands P E ν base f args st v st' := by
  unfold funcC at h
  split at h
  case h_2 => cases h
  rename_i g0 g1 g2 g3 g4 g5 ntmps results body g9 g10 g11 g12 g13 g14 g15 hfn
  split at h
  case h_2 => cases h
  rename_i c
  rw [forceN_eq] at h
  dsimp only at h
  split at h
  · cases h
  rename_i hble
  rw [lenL_eq] at hble
  have hble := Nat.le_of_ble_eq_true hble
  have hF0 := hE.fn f _ hfn
  have h0 := tmpsK_ok h; clear h; obtain ⟨tmps, h, htm⟩ := h0
  have h0 := codeC_ok hE hI hS hF0 c h; clear h; obtain ⟨e, a1, st1, h, hcode⟩ := h0
  have fin : (e = .normal ∨ e = .ret) → (closeK a1.marks st1 fun st => (resultsC E ntmps results.toList).run a1 st fun vs => match vs with
          | [v] => k v st
          | vs => k (.tup vs) st) = .ok out → ∃ v st', k v st' = .ok out ∧ CallLands P E ν base f args st v st' := by
    intro he h
    obtain ⟨st2, h, hclose⟩ := closeK_ok (P := P) (E := E) (ν := ν) (base := base) h
    obtain ⟨vs, h, hres⟩ := resultsC_ok (base := base) hE h
    have hv : ∃ v, k v st2 = .ok out ∧ ∀ σ (Vs : List Value), RepL ν σ vs Vs → Rep ν σ v (if h : Vs.toArray.size = 1 then Vs.toArray[0] else .tuple Vs.toArray) := by
      split at h
      · rename_i v
        refine ⟨v, h, fun σ Vs hV => ?_⟩
        simp only [RepL] at hV
        obtain ⟨V, Us, rfl, g1, rfl⟩ := hV
        simpa using g1
      · rename_i hne
        refine ⟨_, h, fun σ Vs hV => ?_⟩
        have hl := hV.length
        have : Vs.length ≠ 1 := by
          intro e1
          rw [e1] at hl
          obtain ⟨v, rfl⟩ := List.length_eq_one_iff.1 hl.symm
          exact hne v rfl
        rw [dif_neg (by simpa using this)]
        simp only [Rep]
        exact ⟨_, rfl, by simpa using hV⟩
    obtain ⟨v, h, hvv⟩ := hv
    refine ⟨v, st2, h, hE.call f _ hfn rfl, fun σ w Args n R hs hA hR => callsIn_of_wp_marks hF0 rfl trivial ?_⟩
    refine hcode σ w _ Fence.wide n _ hs ⟨⟨?_, fun t ht => ?_⟩, [], rfl, rfl, fun i m D h => by simp at h⟩ rfl (fun σ1 w1 act1 go1 ha1 => ?_)
    · have := hA.length
      have e : args.length = Args.size := by simpa using this.symm
      rw [Array.size_append, Array.size_replicate]; show Args.size + (ntmps - Args.size) = ntmps
      omega
    · have hl := hA.length
      have ht : t < ntmps := ht
      have hl : args.length = Args.size := by simpa using hl.symm
      by_cases g : t < Args.size
      · obtain ⟨V, e1, e2⟩ := hA.get t args[t] (by simp [hl, g])
        refine ⟨_, V, htm t (by omega), ?_, .inr (by simpa [hl, g] using e2)⟩
        rw [Array.getElem?_append_left g, ← Array.getElem?_toList]; exact e1
      · refine ⟨_, undef, htm t (by omega), ?_, by rw [List.getElem?_eq_none (by omega)]; exact .inr (undef_rep σ)⟩
        rw [Array.getElem?_append_right (by omega), Array.getElem?_replicate, if_pos]
        show t - Args.size < ntmps - Args.size
        omega
    · obtain ⟨Ds, q1, q2, q3⟩ := ha1.defers
      have leave : LeavesInM Fence.wide n P (⟨g0, g1, g2, g3, g4, g5, ntmps, results, some c, g9, g10, g11, g12, g13, g14, g15⟩ : Func) act1.tmps R act1.defers .returning w1 := by
        rw [q1]
        refine hclose σ1 w1 n _ act1.tmps R Ds go1.2 q2 q3 (fun w2 go2 => ?_)
        obtain ⟨Vs, r1, r2⟩ := hres σ1 w2 act1 go2.2 ha1
        exact ⟨_, results_run r1, hR σ1 w2 _ (go1.trans go2) (hvv σ1 Vs r2)⟩
      rcases he with rfl | rfl
      · exact leave
      · exact leave
  cases e with
  | normal => exact fin (.inl rfl) h
  | ret => exact fin (.inr rfl) h
  | exit _ => cases h
  | goto _ => cases h

theorem ntC_ok {f : FuncId} {s : String} {k : Nat → R} {out} (hE : EOk P E ν) (h : ntC E f (.err s) k = .ok out) : ∃ F0, P.funcs[f]? = some F0 ∧ k F0.ntmps = .ok out := by
  unfold ntC at h
  split at h
  · rename_i hfn; exact ⟨_, hE.fn f _ hfn, h⟩
  · cases h

theorem selfStep_ok (hE : EOk P E ν) (hI : IntrOk P E ν base) {self : Self} (hS : SelfOk P E ν base self) : SelfOk P E ν base (selfStep E self) := by
  refine ⟨fun h => funcC_ok hE hI hS h, fun h => ?_, fun h => ?_, fun h => ?_⟩
  · obtain ⟨F0, hF0, h⟩ := ntC_ok hE h
    obtain ⟨e, a', st', h, h1⟩ := codeC_ok hE hI hS hF0 _ h
    exact ⟨e, a', st', h, F0, hF0, h1⟩
  · obtain ⟨F0, hF0, h⟩ := ntC_ok hE h
    unfold scopeK at h
    have h0 := codeC_ok hE hI hS hF0 _ h; clear h; obtain ⟨e, a1, st1, h, h1⟩ := h0
    cases e with
    | normal => exact ⟨.normal, a1, st1, h, F0, hF0, fun σ w act F n Q hs ha hF hQ => scopeWp_of (h1 σ w act F n _ hs ha hF hQ)⟩
    | ret => exact ⟨.ret, a1, st1, h, F0, hF0, fun σ w act F n Q hs ha hF hQ => scopeWp_of (h1 σ w act F n _ hs ha hF hQ)⟩
    | exit l => exact ⟨.exit l, a1, st1, h, F0, hF0, fun σ w act F n Q hs ha hF hQ => scopeWp_of (h1 σ w act F n _ hs ha hF hQ)⟩
    | goto l =>
      dsimp only at h
      split at h
      · rename_i rest hf
        obtain ⟨e, a2, st2, h, F0', hF0', h2⟩ := hS.scope h
        rw [hF0] at hF0'; cases hF0'
        refine ⟨e, a2, st2, h, F0, hF0, fun σ w act F n Q hs ha hF hQ => scopeWp_of (h1 σ w act F n _ hs ha hF fun σ' w' act' go ha' => ?_)⟩
        simp only [Ex.out, scopePost, hf]
        exact h2 σ' w' act' F n Q go.2 ha' (hF.mono (go.le hs)) fun σ'' w'' act'' go' ha'' => hQ σ'' w'' act'' (go.trans go') ha''
      · rename_i hf
        refine ⟨.goto l, a1, st1, h, F0, hF0, fun σ w act F n Q hs ha hF hQ => scopeWp_of (h1 σ w act F n _ hs ha hF fun σ' w' act' go ha' => ?_)⟩
        simp only [Ex.out, scopePost, hf]
        exact hQ σ' w' act' go ha'
  · obtain ⟨F0, hF0, h⟩ := ntC_ok hE h
    unfold loopK at h
    have h0 := codeC_ok hE hI hS hF0 _ h; clear h; obtain ⟨e, a1, st1, h, h1⟩ := h0
    cases e with
    | normal =>
      dsimp only at h
      obtain ⟨e, a2, st2, h, F0', hF0', h2⟩ := hS.loop h
      rw [hF0] at hF0'; cases hF0'
      refine ⟨e, a2, st2, h, F0, hF0, fun σ w act F n Q hs ha hF hQ => loopWp_of (h1 σ w act F n _ hs ha hF fun σ' w' act' go ha' => ?_)⟩
      exact h2 σ' w' act' F n Q go.2 ha' (hF.mono (go.le hs)) fun σ'' w'' act'' go' ha'' => hQ σ'' w'' act'' (go.trans go') ha''
    | ret => exact ⟨.ret, a1, st1, h, F0, hF0, fun σ w act F n Q hs ha hF hQ => loopWp_of (h1 σ w act F n _ hs ha hF hQ)⟩
    | exit l => exact ⟨.exit l, a1, st1, h, F0, hF0, fun σ w act F n Q hs ha hF hQ => loopWp_of (h1 σ w act F n _ hs ha hF hQ)⟩
    | goto l => exact ⟨.goto l, a1, st1, h, F0, hF0, fun σ w act F n Q hs ha hF hQ => loopWp_of (h1 σ w act F n _ hs ha hF hQ)⟩

theorem self0_ok : SelfOk P E ν base self0 := ⟨(fun h => by cases h), (fun h => by cases h), (fun h => by cases h), (fun h => by cases h)⟩
theorem selfN_ok (hE : EOk P E ν) (hI : IntrOk P E ν base) (n : Nat) : SelfOk P E ν base (selfN E n) := by
  induction n with
  | zero => exact self0_ok
  | succ n ih => exact selfStep_ok hE hI ih

/-- THE WORD OF THE EVALUATOR -/
theorem runF_ok (hE : EOk P E ν) (hI : IntrOk P E ν base) {fuel : Nat} {f : FuncId} {args : List SV} {st st' : St} {v : SV} (h : runF E fuel f args st = .ok (v, st')) : CallLands P E ν base f args st v st' := by
  obtain ⟨v', st'', h1, h2⟩ := (selfN_ok hE hI fuel).call h
  cases h1
  exact h2
end Go.Ev
