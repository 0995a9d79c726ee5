/- A range over a function at the wide fence: the rule for whatever a round keeps; a round that appends onto a row of its own; returns behind several such loops. -/
import Derived.Test.YtkfeofhifmebkaaGreatDoorIter
import Derived.Test.YtkfeofhifmebkaaGreatDoorStr2
import Derived.Deep.AppendLies
namespace Go.Proofs.YtkfeofhifmebkaaGreatDoor
open Go.RowKit Go.Shelf

variable {P : Program}
theorem Stays.blk (B b : Nat) (t : TypeId) (cs : List Value) : Stays B (fun W => Blk W b t cs) := fun W W' row hs hg hr => by
  refine hs.kept hg (fun e => ?_)
  obtain ⟨_, o, ho, hc⟩ := hr b e.symm
  rw [show W.heap[b]? = _ from hs] at ho; cases ho; cases hc
/-- .. where the loop's variable lies in a block that each round lays. -/
theorem iter_ruleH {α : Type} {g : Operand} {ps : Array Tmp} {assign body : Code} {Q : Exit → Act → World → Prop} {a : Act} {w : World}
    {gf : Nat} {lb : Array Value} (wb : World) (Kp : World → World → Prop) {encs : α → Array Value} {xs : List α} {w0 : World}
    (hKt : ∀ {A B C : World}, Kp A B → Kp B C → Kp A C) (hKb : ∀ (W : World) (l : Nat) (o o' : Obj), w.heap.size ≤ l → W.heap[l]? = some o → o.isCells = false → o.isWalk = false → Kp W (W.putObj l o'))
    (hg : a.eval g = .func (.func gf) #[] lb) (eg : ∀ args w, (callFunc gf args).run P w = .ok (.enter gf args) w)
    (hseq : SeqStopsK Fence.wide 8 P gf lb encs Kp (fun ys => ys = xs) (fun pre => pre <+: xs) xs.length w0)
    (hb0 : Below w0.heap.size w0 w) (hw : Below wb.heap.size wb w) (hps : ∀ x, (encs x).size = ps.size)
    (I : List α → World → Prop) (Ix : Code → List α → World → Prop) (hI : ∀ pre, Stays w.heap.size (I pre)) (hIx : ∀ c pre, Stays w.heap.size (Ix c pre)) (h0 : I [] w) (Ax : α → Act → World → Prop) (hAx : ∀ x a', Stays w.heap.size (fun W => Ax x a' W))
    (hassign : ∀ (l : Nat) (pre : List α) (x : α) (W : World) (K : Act → World → Prop), Below wb.heap.size wb W → I pre W → (∀ a' W', KeepsFrom w.heap.size W W' → Kp W W' → Below wb.heap.size W W' → I pre W' → Ax x a' W' → K a' W') →
      assign.wpIn (Fence.wide.inRound l) 7 P (Exit.then K (fun _ _ _ => False)) { tmps := (ps.zip (encs x)).foldl (fun t (p, v) => t.setIfInBounds p v) a.tmps, defers := [] } W)
    (hbody : ∀ (l : Nat) (pre : List α) (x : α) (a' : Act) (W : World), Below wb.heap.size wb W → pre.length < xs.length → I pre W → Ax x a' W → body.wpIn (Fence.wide.inRound l) 7 P (fun e a' W' => iterPost w.heap.size wb.heap.size I Ix (pre ++ [x]) W e a' W' ∧ Kp W W') a' W)
    (hdone : ∀ (D : Nat) (W : World), w.heap.size ≤ D → Below wb.heap.size wb W → I xs W → W.heap[D]? = some (.deferred (some [])) → Q .normal { a with defers := { target := .collected D, args := #[] } :: a.defers } W)
    (hstop : ∀ (D : Nat) (c : Code) (pre : List α) (W : World), w.heap.size ≤ D → pre <+: xs → Below wb.heap.size wb W → Ix c pre W → W.heap[D]? = some (.deferred (some [])) → c.wpIn Fence.wide 9 P Q { a with defers := { target := .collected D, args := #[] } :: a.defers } W) :
    (Code.rangeFunc g ps assign body).wpIn Fence.wide 9 P Q a w := by
  refine wpIn_rangeFunc_ownH rfl (by omega) hg trivial eg hseq hKt hKb hb0 hps
    (fun pre W => I pre W ∧ Below wb.heap.size wb W) (fun c pre W => Ix c pre W ∧ Below wb.heap.size wb W) ?_ ?_ ⟨h0, hw⟩ Ax (fun x a' _ W W' row hs hg hr => hAx x a' W W' row hs hg hr) ?_ ?_ ?_ ?_
  · exact fun pre W W' row hs hg hr => ((hI pre).and (Stays.below (Nat.le_refl _) hw.size)) W W' row hs hg hr
  · exact fun c pre W W' row hs hg hr => ((hIx c pre).and (Stays.below (Nat.le_refl _) hw.size)) W W' row hs hg hr
  · intro l pre x W K ⟨hi, hb⟩ hK
    exact hassign l pre x W K hb hi fun a' W' h1 h2 h3 h4 h5 => hK a' W' h1 h2 ⟨h4, hb.trans h3⟩ h5
  · intro l pre x a' W _ _ ⟨hi, hb⟩ hax hl
    refine wpIn_mono (hbody l pre x a' W hb hl hi hax) ?_
    intro e a' W' ⟨h, hkb⟩
    cases e with
    | normal => exact ⟨h.1, hkb, h.2.2, hb.trans h.2.1⟩
    | ret => exact ⟨h.1, h.2.2, hb.trans h.2.1⟩
    | exit id => exact ⟨h.1, h.2.2, hb.trans h.2.1⟩
    | goto t => exact ⟨h.1, h.2.2, hb.trans h.2.1⟩
    | panic c => exact h
    | outgrown => exact h
  · rintro D ys W hD rfl ⟨hi, hb⟩ hK
    exact hdone D W hD hb hi hK
  · rintro D c pre W hD hp ⟨hi, hb⟩ hK
    exact hstop D c pre W hD hp hb hi hK
theorem Stays.size (B n : Nat) : Stays B (fun W => n ≤ W.heap.size) := fun _ _ _ hs hg _ => Nat.le_trans hs hg.size
/-- 'out = append(out, y)' for a struct y, at a fence. -/
theorem appOneIn {F : Fence} {m : Nat} {P : Program} {w0 : World} {ops : Array Oper} {rest : List Oper} {o : Oper} {a : Act} {Q : Exit → Act → World → Prop} (hgd : o.guard = none) (s x : Operand) (T e : TypeId) (z0 : Value) (sz bytes : Nat)
    (ho : o.op = .call { callee := .builtin .append, args := #[s, x], argTypes := #[T, T] }) (ht : P.underlying T = some (.slice e)) (hinfo : (P.info? e).map (fun i => (i.zero, i.size, i.bytes)) = some (some z0, sz, bytes)) (hz : z0.cells.size = sz) (hsz : 0 < sz)
    (base : Nat) (v : Value) (els : List (List Value)) (hs : a.eval s = v) (hown : RowS sz base e w0 v els) (el : List Value) (hel : el.length = sz) (hx : a.eval x = .slice (some ⟨w0.heap.size, 0, none⟩) 1 1) (hy : ∀ y ∈ el, y.oneCell' = true)
    (h63 : els.length + 1 ≤ maxLen) (hbytes : (els.length + 1) * bytes ≤ 140737488355328) (hbase : base ≤ w0.heap.size)
    (h : ∀ g cap w1, RowS sz base e w1 (.slice (some ⟨g, 0, none⟩) (els.length + 1) cap) (els ++ [el]) → (w0.alloc (.cells el.toArray e)).grownBy w1 v.ownBlock → Below base w0 w1 → (v.ownBlock = some g ∨ w0.heap.size ≤ g) → wpListIn F m P ops Q rest (a.put o.dst (.slice (some ⟨g, 0, none⟩) (els.length + 1) cap)) w1) :
    wpListIn F m P ops Q (o :: rest) a (w0.alloc (.cells el.toArray e)) := by
  obtain ⟨i0, hi, hz0, hz1, hz2⟩ := info_parts hinfo
  have hnews : ∀ j u, el[j]? = some u → (w0.alloc (.cells el.toArray e)).cell? ((⟨w0.heap.size, 0, none⟩ : Addr).add j) = some u := by
    intro j u hu
    have hb := Blk.new w0 e el
    have := hb.cellK hu
    rw [show (⟨w0.heap.size, 0, none⟩ : Addr).add j = ⟨w0.heap.size, j, none⟩ by unfold Addr.add; split <;> simp_all]
    exact this
  refine wpListIn_plain hgd fun K hK' => ?_
  obtain ⟨g, cap, w', hrun, r1, r2, r3, _⟩ := run_append_lies (P := P) (w0.alloc (.cells el.toArray e)) T o.type base e i0 z0 sz bytes ht hi hz0 hz1 hz2 hz hsz v els.length els.flatten (hown.1.alloc _) ⟨w0.heap.size, 0, none⟩ 1 1 el (by rw [hel, Nat.one_mul]) hnews hy (by decide) h63 hbytes (by simp; omega) (w0.heap.size + 1) (by simp)
  unfold Oper.wpIn
  refine ⟨?_, ?_⟩
  · simp [Oper.about, ho, resolve, Target.leads, Sem.run_pure]
  · rw [Oper.semAt_plain F _ _ (by rw [ho]; intro c hc'; cases hc')]
    simp [execOp, ho, resolve, invoke, builtin, hs, hx, hrun, Result.andThen]
    refine hK' _ _ (h g cap w' ⟨by simpa using r1, fun x hx => ?_⟩ r2 (((Below.refl base w0).alloc hbase _).grown r2 (by simp; omega) fun j ej => (hown.own j ej)) (r3.imp id fun e => by omega))
    rcases List.mem_append.1 hx with hx | hx
    · exact hown.2 x hx
    · rw [List.mem_singleton.1 hx]; exact hel
theorem below_of_keeps {n : Nat} {W W' : World} (h : Keeps W W') (hn : n ≤ W.heap.size) : Below n W W' := Below.mono h hn
theorem keepsFrom_keeps {B : Nat} {W W' : World} (h : Keeps W W') : KeepsFrom B W W' := KeepsFrom.of_grownBy (keeps_grown h) (fun j e => by cases e)

/-- What a round keeps that appends onto the slice in box O: old memory, and every block of cells but O and that slice's row. -/
structure KeepR (n O : Nat) (W W' : World) : Prop where
  below : Below n W W'
  row : ∀ v', W'.cell? ⟨O, 0, none⟩ = some v' → ∀ r, v'.ownBlock = some r → (∃ v, W.cell? ⟨O, 0, none⟩ = some v ∧ v.ownBlock = some r) ∨ W.heap.size ≤ r
  cells : ∀ k o, k ≠ O → (∀ v, W.cell? ⟨O, 0, none⟩ = some v → v.ownBlock ≠ some k) → W.heap[k]? = some o → o.isCells = true → W'.heap[k]? = some o
theorem KeepR.trans {n O : Nat} {x y z : World} (h : KeepR n O x y) (k : KeepR n O y z) : KeepR n O x z := by
  refine ⟨h.below.trans k.below, fun v' hv r hr => ?_, fun i o hi hn hx hc => ?_⟩
  · rcases k.row v' hv r hr with ⟨v, h1, h2⟩ | h1
    · exact h.row v h1 r h2
    · exact .inr (Nat.le_trans h.below.size h1)
  · refine k.cells i o hi (fun v hv he => ?_) (h.cells i o hi hn hx hc) hc
    rcases h.row v hv i he with ⟨v1, h1, h2⟩ | h1
    · exact hn v1 h1 h2
    · have := (Array.getElem?_eq_some_iff.1 hx).1; omega
theorem KeepR.of_keeps {n O : Nat} {W W' : World} (h : Keeps W W') (hn : n ≤ W.heap.size) (hO : O < W.heap.size) : KeepR n O W W' := by
  refine ⟨Below.mono h hn, fun v' hv r hr => .inl ⟨v', ?_, hr⟩, fun k o _ _ hx _ => by rw [h.block k ((Array.getElem?_eq_some_iff.1 hx).1)]; exact hx⟩
  rw [← hv]; exact (h.cell (p := ⟨O, 0, none⟩) hO).symm
theorem KeepR.refl {n O : Nat} {W : World} (hn : n ≤ W.heap.size) (hO : O < W.heap.size) : KeepR n O W W := KeepR.of_keeps (Keeps.refl W) hn hO
/-- The slice in box O lies apart from block k. -/
def ApartR (W : World) (O k : Nat) : Prop := k ≠ O ∧ ∀ v, W.cell? ⟨O, 0, none⟩ = some v → v.ownBlock ≠ some k
theorem KeepR.apart {n O k : Nat} {W W' : World} (h : KeepR n O W W') (ha : ApartR W O k) (hk : k < W.heap.size) : ApartR W' O k := by
  refine ⟨ha.1, fun v' hv he => ?_⟩
  rcases h.row v' hv k he with ⟨v, h1, h2⟩ | h1
  · exact ha.2 v h1 h2
  · omega
theorem KeepR.blk {n O : Nat} {W W' : World} (h : KeepR n O W W') {b : Nat} {t : TypeId} {cs : List Value} (hb : Blk W b t cs) (ha : ApartR W O b) : Blk W' b t cs := h.cells b _ ha.1 ha.2 hb rfl
theorem KeepR.boxed {n O : Nat} {W W' : World} (h : KeepR n O W W') {b : Nat} {t : TypeId} {v : Value} (hb : Boxed W b t v) (ha : ApartR W O b) : Boxed W' b t v := h.cells b _ ha.1 ha.2 hb rfl
theorem KeepR.cell {n O : Nat} {W W' : World} (h : KeepR n O W W') {b k : Nat} {v : Value} (hc : W.cell? ⟨b, k, none⟩ = some v) (ha : ApartR W O b) : W'.cell? ⟨b, k, none⟩ = some v := by
  unfold World.cell? at hc ⊢
  cases hb : W.heap[b]? with
  | none => simp [hb] at hc
  | some o =>
    cases o with
    | cells cs t fr => rw [h.cells b _ ha.1 ha.2 hb rfl]; rw [hb] at hc; exact hc
    | _ => simp [hb] at hc
/-- The iterator's record turns no cells. -/
theorem KeepR.putObj {n O l : Nat} {W : World} {o o' : Obj} (hl : W.heap[l]? = some o) (hc : o.isCells = false) (hn : n ≤ l) (hO : O < l) : KeepR n O W (W.putObj l o') := by
  have hg := grownBy_putObj' W l o'
  have hll := (Array.getElem?_eq_some_iff.1 hl).1
  have hblk : ∀ (k : Nat) (o2 : Obj), W.heap[k]? = some o2 → o2.isCells = true → (W.putObj l o').heap[k]? = W.heap[k]? := fun k o2 hx hcc => by
    refine hg.block k ((Array.getElem?_eq_some_iff.1 hx).1) (fun h => ?_)
    cases h; rw [hl] at hx; cases hx; rw [hc] at hcc; cases hcc
  refine ⟨Below.putObj (Below.refl n W) o' hn hl, fun v' hv r hr => .inl ⟨v', ?_, hr⟩, fun k o2 _ _ hx hcc => (hblk k o2 hx hcc).trans hx⟩
  rw [← hv]
  exact (World.cell?_of_block (w := W) (a := ⟨O, 0, none⟩) (hg.block O (by omega) (fun h => by cases h; omega))).symm

/-- What such a round comes to, for what it keeps. -/
theorem KeepR.appended {n O : Nat} {W W1 W2 : World} {v v' : Value} {el : List Value} {e t : TypeId} (hv : Boxed W O t v) (hgrow : (W.alloc (.cells el.toArray e)).grownBy W1 v.ownBlock) (hbel : Below n W W1) (hn : n ≤ O)
    (hnew : v'.ownBlock = v.ownBlock ∨ ∀ r, v'.ownBlock = some r → W.heap.size ≤ r) (h2 : W2 = W1.setCell ⟨O, 0, none⟩ v') (hc1 : (W1.cell? ⟨O, 0, none⟩).isSome = true) : KeepR n O W W2 := by
  subst h2
  refine ⟨Below.setCell hbel (p := ⟨O, 0, none⟩) hn _, fun u hu r hr => ?_, fun k o hk hnk hx hc => ?_⟩
  · obtain ⟨u0, hu0⟩ := Option.isSome_iff_exists.1 hc1
    rw [World.cell?_setCell_same' _ _ _ hc1] at hu
    cases hu
    rcases hnew with h | h
    · exact .inl ⟨v, hv.cell, by rw [← h]; exact hr⟩
    · exact .inr (h r hr)
  · have hlt := (Array.getElem?_eq_some_iff.1 hx).1
    rw [Below.heap_setCell W1 ⟨O, 0, none⟩ v' k (fun e => hk (by simpa using e))]
    rw [hgrow.block k (by simp; omega) (fun e => hnk v hv.cell e.symm)]
    rw [Below.heap_alloc _ _ _ hlt]; exact hx
theorem keepsOthers_appended {sz n : Nat} {e : TypeId} {W W1 : World} {v : Value} {els : List (List Value)} {o : Obj} (hrow : RowS sz n e W v els) (hgrow : (W.alloc o).grownBy W1 v.ownBlock) (a : Addr) (u : Value) : KeepsOthers W (W1.setCell a u) := by
  refine (KeepsOthers.alloc W o).trans ((KeepsOthers.of_grownBy hgrow fun j ob hj hob => ?_).trans (KeepsOthers.setCell _ _ _))
  rcases (hrow.alloc o).1.2 with ⟨rfl, _⟩ | ⟨g, cap, cur, rfl, _, hg, _⟩
  · simp [Value.ownBlock] at hj
  · obtain rfl : g = j := by simpa [Value.ownBlock] using hj
    rw [hg] at hob; cases hob; rfl
/-! ### Returns behind several loops over functions -/
end Go.Proofs.YtkfeofhifmebkaaGreatDoor
