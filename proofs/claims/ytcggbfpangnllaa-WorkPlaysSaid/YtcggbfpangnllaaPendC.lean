/- find: the first thing that is such. -/
import Derived.Test.YtcggbfpangnllaaPendB
namespace Go.Proofs.Ytcggbfpangnllaa
open Go.RowKit Go.Shelf i64
attribute [local go_sem] Oper.semAt_some
variable {P : Program}

/-- The rule where a round that goes on keeps all but the block O; one that leaves may write what it likes. -/
theorem iter_ruleCN {α : Type} {g : Operand} {ps : Array Tmp} {assign body : Code} {Q : Exit → Act → World → Prop} {a : Act} {w : World}
    {gf : Nat} {lb : Array Value} (wb : World) (O : Nat) {encs : α → Array Value} {xs : List α} {w0 : World}
    (hg : a.eval g = .func (.func gf) #[] lb) (eg : ∀ args w, (callFunc gf args).run P w = .ok (.enter gf args) w)
    (hseq : SeqStopsK Fence.wide 8 P gf lb encs (KeepC wb.heap.size O) (fun ys => ys = xs) (fun pre => pre <+: xs) xs.length w0)
    (hb0 : Below w0.heap.size w0 w) (hw : Below wb.heap.size wb w) (hps : ∀ x, (encs x).size = ps.size)
    (I : List α → World → Prop) (Ix : Code → List α → World → Prop) (hI : ∀ pre, Stays w.heap.size (I pre)) (hIx : ∀ c pre, Stays w.heap.size (Ix c pre)) (h0 : I [] w) (a₁ : α → Act)
    (hassign : ∀ (l : Nat) (x : α) (W : World) (K : Act → World → Prop), K (a₁ x) W →
      assign.wpIn (Fence.wide.inRound l) 7 P (Exit.then K (fun _ _ _ => False)) { tmps := (ps.zip (encs x)).foldl (fun t (p, v) => t.setIfInBounds p v) a.tmps, defers := [] } W)
    (hbody : ∀ (l : Nat) (pre : List α) (x : α) (W : World), Below wb.heap.size wb W → pre.length < xs.length → I pre W → body.wpIn (Fence.wide.inRound l) 7 P (fun e a' W' => iterPost w.heap.size wb.heap.size I Ix (pre ++ [x]) W e a' W' ∧ (e = .normal → KeepC wb.heap.size O W W')) (a₁ x) W)
    (hdone : ∀ (D : Nat) (W : World), w.heap.size ≤ D → Below wb.heap.size wb W → I xs W → W.heap[D]? = some (.deferred (some [])) → Q .normal { a with defers := { target := .collected D, args := #[] } :: a.defers } W)
    (hstop : ∀ (D : Nat) (c : Code) (pre : List α) (W : World), w.heap.size ≤ D → pre <+: xs → Below wb.heap.size wb W → Ix c pre W → W.heap[D]? = some (.deferred (some [])) → c.wpIn Fence.wide 9 P Q { a with defers := { target := .collected D, args := #[] } :: a.defers } W) :
    (Code.rangeFunc g ps assign body).wpIn Fence.wide 9 P Q a w := by
  refine wpIn_rangeFunc_ownG rfl (by omega) hg trivial eg hseq KeepC.trans
    (fun W l o o' hl hlo hc hwk => ⟨belowK_b hw.size W l o o' hl hlo hc hwk, fun k ok hO hk hkc => by
      by_cases e : k = l
      · subst e; rw [hlo] at hk; cases hk; rw [hc] at hkc; cases hkc
      · have hlt := (Array.getElem?_eq_some_iff.1 hk).1
        exact ((grownBy_putObj' W l o').block k hlt (fun h => e (by cases h; rfl))).trans hk⟩) hb0 hps
    (fun pre W => I pre W ∧ Below wb.heap.size wb W) (fun c pre W => Ix c pre W ∧ Below wb.heap.size wb W) ?_ ?_ ⟨h0, hw⟩ a₁ hassign ?_ ?_ ?_
  · exact fun pre W W' row hs hg hr => ((hI pre).and (Stays.below (Nat.le_refl _) hw.size)) W W' row hs hg hr
  · exact fun c pre W W' row hs hg hr => ((hIx c pre).and (Stays.below (Nat.le_refl _) hw.size)) W W' row hs hg hr
  · intro l pre x W ⟨hi, hb⟩ hl
    refine wpIn_mono (hbody l pre x W hb hl hi) ?_
    intro e a' W' ⟨h, hkb⟩
    cases e with
    | normal => exact ⟨h.1, hkb rfl, h.2.2, hb.trans h.2.1⟩
    | ret => exact ⟨h.1, h.2.2, hb.trans h.2.1⟩
    | exit id => exact ⟨h.1, h.2.2, hb.trans h.2.1⟩
    | goto t => exact ⟨h.1, h.2.2, hb.trans h.2.1⟩
    | panic c => exact h
    | outgrown => exact h
  · rintro D ys W hD rfl ⟨hi, hb⟩ hK
    exact hdone D W hD hb hi hK
  · rintro D c pre W hD hp ⟨hi, hb⟩ hK
    exact hstop D c pre W hD hp hb hi hK
/-- A cell of one value, loaded whole. -/
theorem load_scalar {P : Program} {ty : TypeId} {d : TypeDesc} (hu : P.underlying ty = some d) (hd : (match d with | .struct _ | .array _ _ => true | _ => false) = false) {W : World} {b : Nat} {v : Value} (hc : W.cell? ⟨b, 0, none⟩ = some v) : (loadVar ty ⟨b, 0, none⟩).run P W = .ok v W := by
  unfold loadVar
  have hr := run_underlying (w := W) hu
  cases d <;> simp at hd <;> simp [go_sem, isAgg, hr, hc, Result.andThen]
theorem results_cells3 {P : Program} {fn : Func} {p q r : Tmp} {t1 t2 t3 : TypeId} (h : fn.results = #[.cell p t1, .cell q t2, .cell r t3]) (tmps : Array Value) {W : World} {b1 b2 b3 : Nat} {v1 v2 v3 : Value}
    (hp : tmps.getD p undef = .pointer (some ⟨b1, 0, none⟩)) (hq : tmps.getD q undef = .pointer (some ⟨b2, 0, none⟩)) (hr : tmps.getD r undef = .pointer (some ⟨b3, 0, none⟩))
    (h1 : (loadVar t1 ⟨b1, 0, none⟩).run P W = .ok v1 W) (h2 : (loadVar t2 ⟨b2, 0, none⟩).run P W = .ok v2 W) (h3 : (loadVar t3 ⟨b3, 0, none⟩).run P W = .ok v3 W) :
    (results fn tmps).run P W = .ok (.tuple #[v1, v2, v3]) W := by
  have hp' : tmps[p]?.getD undef = .pointer (some ⟨b1, 0, none⟩) := by simpa using hp
  have hq' : tmps[q]?.getD undef = .pointer (some ⟨b2, 0, none⟩) := by simpa using hq
  have hr' : tmps[r]?.getD undef = .pointer (some ⟨b3, 0, none⟩) := by simpa using hr
  simp [results, h, hp', hq', hr', asAddr, h1, h2, h3]
theorem markStays (B D : Nat) (hD : D < B) : Stays B (fun W => W.heap[D]? = some (.deferred (some []))) := fun W W' row hs hg hr =>
  (hg.block D (Array.getElem?_eq_some_iff.1 hs).1 (fun e => by obtain ⟨h1, _⟩ := hr D e.symm; omega)).trans hs
theorem PendAt.below {m : Nat} {w w' : World} {p rb cap n : Nat} {pp bb : Nat → Nat} {rest : List Value} {R : List (List Int)} (h : PendAt w p rb cap n pp bb rest R) (hb : Below m w w') (hm : w.heap.size ≤ m) : PendAt w' p rb cap n pp bb rest R := h.keeps (Below.mono hb hm)
/-- What find hands back. -/
def whereQ (R : List (List Int)) (q : Int → Bool) : Option Nat := R.findIdx? fun l => l.any q
def findC (R : List (List Int)) (q : Int → Bool) : Int := ((whereQ R q).getD 0 : Nat)
def findA (R : List (List Int)) (q : Int → Bool) : Int := match whereQ R q with | some i => (((R.getD i []).findIdx? q).getD 0 : Nat) | none => 0
def findB (R : List (List Int)) (q : Int → Bool) : Bool := (whereQ R q).isSome
theorem findIdx_at {q : Int → Bool} {Q : List Int} {j : Nat} (hj : j < Q.length) (hq : q (Q.getD j 0) = true) (h2 : ∀ k, k < j → q (Q.getD k 0) = false) : Q.findIdx? q = some j := by
  rw [List.findIdx?_eq_some_iff_getElem]
  refine ⟨hj, ?_, fun k hk => ?_⟩
  · simpa [List.getD, hj] using hq
  · have := h2 k hk
    simp only [List.getD, List.getElem?_eq_getElem (show k < Q.length by omega), Option.getD_some] at this
    rw [this]; exact Bool.false_ne_true
theorem find_hit {R : List (List Int)} {q : Int → Bool} {i j : Nat} (hi : i < R.length) (hj : j < (R.getD i []).length) (hq : q ((R.getD i []).getD j 0) = true) (h1 : ∀ k, k < i → (R.getD k []).any q = false) (h2 : ∀ k, k < j → q ((R.getD i []).getD k 0) = false) :
    findC R q = (i : Int) ∧ findA R q = (j : Int) ∧ findB R q = true := by
  have e0 : R.getD i [] = R[i] := by simp [List.getD, hi]
  have hw : whereQ R q = some i := by
    unfold whereQ
    rw [List.findIdx?_eq_some_iff_getElem]
    refine ⟨hi, ?_, fun k hk => ?_⟩
    · rw [List.any_eq_true]
      rw [e0] at hj hq
      refine ⟨R[i][j], List.getElem_mem hj, ?_⟩
      simpa [List.getD, hj] using hq
    · have := h1 k hk
      simp only [List.getD, List.getElem?_eq_getElem (show k < R.length by omega), Option.getD_some] at this
      rw [this]; exact Bool.false_ne_true
  have ha := findIdx_at hj hq h2
  unfold findC findA findB
  rw [hw]
  simp only [Option.getD_some, Option.isSome_some, and_true]
  rw [ha]; exact ⟨trivial, rfl⟩
theorem find_miss {R : List (List Int)} {q : Int → Bool} (h1 : ∀ k, k < R.length → (R.getD k []).any q = false) : findC R q = 0 ∧ findA R q = 0 ∧ findB R q = false := by
  have hw : whereQ R q = none := by
    unfold whereQ
    rw [List.findIdx?_eq_none_iff]
    intro l hl
    obtain ⟨k, hk, rfl⟩ := List.getElem_of_mem hl
    have := h1 k hk
    simpa [List.getD, hk] using this
  unfold findC findA findB
  rw [hw]; exact ⟨rfl, rfl, rfl⟩
def noQ (q : Int → Bool) (pre : List (Nat × Int)) : Prop := ∀ y ∈ pre, q y.2 = false
theorem noQ_nil (q : Int → Bool) : noQ q [] := fun _ h => (nomatch h)
theorem noQ_snoc {q : Int → Bool} {pre : List (Nat × Int)} (h : noQ q pre) {x : Nat × Int} (hx : q x.2 = false) : noQ q (pre ++ [x]) := fun y hy => by
  rcases List.mem_append.1 hy with h1 | h1
  · exact h y h1
  · rw [List.mem_singleton.1 h1]; exact hx
theorem noQ_any {q : Int → Bool} {l : List Int} (h : noQ q (placed l l.length)) : l.any q = false := by
  rw [List.any_eq_false]
  intro x hx
  obtain ⟨k, hk, rfl⟩ := List.getElem_of_mem hx
  have := h (k, l.getD k 0) (List.mem_map.2 ⟨k, List.mem_range.2 hk, rfl⟩)
  simpa [List.getD, hk] using this
theorem placed_take (l : List Int) (pre : List (Nat × Int)) (h : pre <+: placed l l.length) : pre = placed l pre.length := by
  have h1 : pre.length ≤ l.length := by have := h.length_le; rwa [placed_len] at this
  have h2 := placed_pre l pre.length l.length h1
  obtain ⟨a, ha⟩ := h
  obtain ⟨b, hb⟩ := h2
  rw [← hb] at ha
  exact (List.append_inj ha (by rw [placed_len])).1
set_option maxRecDepth 100000 in
set_option maxHeartbeats 4000000 in
theorem find_any {w : World} {p rb cap n : Nat} {pp bb : Nat → Nat} {rest : List Value} {R : List (List Int)} (h : PendAt w p rb cap n pp bb rest R) (q : Int → Bool) (g : Nat) (lb : Array Value)
    (eg : ∀ args W, (callFunc g args).run Try.prog W = .ok (.enter g args) W)
    (hlike : ∀ (x : Int) (W : World), Keeps w W → Calls Try.prog g (#[.int .i64 x] ++ lb) W fun e w' => e = .returned (.bool (q x)) ∧ W = w') :
    Calls Try.prog 62 #[.pointer (some ⟨p, 0, none⟩), .func (.func g) #[] lb] w fun e w' => e = .returned (.tuple #[.int .i64 (findC R q), .int .i64 (findA R q), .bool (findB R q)]) ∧ Keeps w w' := by
  obtain ⟨W0, hW0⟩ : ∃ W0, W0 = (((w.alloc (.cells #[.func (.func g) #[] lb] 92)).alloc (.cells #[.int .i64 0] 3)).alloc (.cells #[.int .i64 0] 3)).alloc (.cells #[.bool false] 4) := ⟨_, rfl⟩
  have hK0 : Keeps w W0 := by rw [hW0]; exact (((Keeps.alloc _ _).trans (Keeps.alloc _ _)).trans (Keeps.alloc _ _)).trans (Keeps.alloc _ _)
  have hA0 := h.keeps hK0
  have c0 := hA0.c0
  have b3 : Boxed W0 w.heap.size 92 (.func (.func g) #[] lb) := by rw [hW0]; exact (((Boxed.new w _ _).alloc _).alloc _).alloc _
  have b4 : Boxed W0 (w.heap.size + 1) 3 (.int .i64 0) := by
    rw [hW0]; have := Boxed.new (w.alloc (.cells #[.func (.func g) #[] lb] 92)) 3 (.int .i64 0)
    rw [World.size_alloc] at this; exact (this.alloc _).alloc _
  have b5 : Boxed W0 (w.heap.size + 1 + 1) 3 (.int .i64 0) := by
    rw [hW0]; have := Boxed.new ((w.alloc (.cells #[.func (.func g) #[] lb] 92)).alloc (.cells #[.int .i64 0] 3)) 3 (.int .i64 0)
    rw [World.size_alloc, World.size_alloc] at this; exact this.alloc _
  have b6 : Boxed W0 (w.heap.size + 1 + 1 + 1) 4 (.bool false) := by
    rw [hW0]; have := Boxed.new (((w.alloc (.cells #[.func (.func g) #[] lb] 92)).alloc (.cells #[.int .i64 0] 3)).alloc (.cells #[.int .i64 0] 3)) 4 (.bool false)
    rw [World.size_alloc, World.size_alloc, World.size_alloc] at this; exact this
  rw [hW0] at c0
  have hRl := h.len
  have hnc := h.hn
  have hmc := h.hcap
  unfold maxLen at hmc
  have hn0 : (0 : Int) ≤ (n : Int) := by omega
  replace hlike := Lib.hid hlike
  replace h := Lib.hid h
  replace hRl := Lib.hid hRl
  replace hK0 := Lib.hid hK0
  replace b3 := Lib.hid b3
  replace b4 := Lib.hid b4
  replace b5 := Lib.hid b5
  replace b6 := Lib.hid b6
  replace hW0 := Lib.hid hW0
  clear hA0
  refine (callsIn_wide (n := 9)).1 ?_
  refine callsIn_of_wp_marks Try.func62 rfl trivial ?_ rfl
  simp only [Try.ntmps62, List.size_toArray, List.length_cons, List.length_nil, Nat.reduceAdd, Nat.reduceSub, Array.replicate_succ, Array.replicate_zero, List.push_toArray, List.append_toArray, List.nil_append, List.cons_append]
  gi_wp2_with fail
  rw [← hW0.out]
  clear c0
  refine wpIn_loop (fun a' W => ∃ (k : Nat) (Ds : List Nat) (u7 u18 u19 u20 u21 u22 u30 : Value), a' = { tmps := #[.pointer (some ⟨p, 0, none⟩), .func (.func g) #[] lb, undef, .pointer (some ⟨w.heap.size, 0, none⟩), .pointer (some ⟨w.heap.size + 1, 0, none⟩), .pointer (some ⟨w.heap.size + 1 + 1, 0, none⟩), .pointer (some ⟨w.heap.size + 1 + 1 + 1, 0, none⟩), u7, undef, undef, .pointer (some ⟨p, 0, none⟩), .bool false, .pointer (some ⟨p, 0, none⟩), .pointer (some ⟨p, 0, none⟩), .pointer (some ⟨p, 0, none⟩), .slice (some ⟨rb, 0, none⟩) n cap, .int .i64 n, .int .i64 k, u18, u19, u20, u21, u22, undef, undef, undef, undef, undef, undef, undef, u30], defers := marksOf Ds } ∧
      k ≤ n ∧ Ds.Nodup ∧ (∀ D ∈ Ds, w.heap.size + 4 ≤ D ∧ W.heap[D]? = some (.deferred (some []))) ∧ Boxed W w.heap.size 92 (.func (.func g) #[] lb) ∧ Boxed W (w.heap.size + 1) 3 (.int .i64 0) ∧ Boxed W (w.heap.size + 1 + 1) 3 (.int .i64 0) ∧ Boxed W (w.heap.size + 1 + 1 + 1) 4 (.bool false) ∧ (∀ i, i < k → (R.getD i []).any q = false) ∧ Keeps w W)
    (fun a' _ => n - (intOf (a'.tmps.getD 17 undef)).toNat) ?start ?round
  case start =>
    refine ⟨0, [], _, _, _, _, _, _, _, rfl, Nat.zero_le _, List.nodup_nil, ?_, b3.out, b4.out, b5.out, b6.out, fun i hi => absurd hi (Nat.not_lt_zero i), hK0.out⟩
    intro D hD; cases hD
  case round =>
    clear b3 b4 b5 b6 hK0 hW0
    rintro _ W ⟨k, Ds, u7, u18, u19, u20, u21, u22, u30, rfl, hk, hnd, hDs, h3, h4, h5, h6, hno, hK⟩
    have hkn : k < n ∨ k = n := by omega
    rcases hkn with hlt | rfl
    · have hltI := Int.ofNat_lt.2 hlt
      have hRk : k < R.length := by have := hRl.out; omega
      have hA := h.out.keeps hK
      have hws := hK.size
      have h6l := h6.lt
      obtain ⟨Wl, hWl⟩ : ∃ Wl, Wl = ((W.alloc (.cells #[.int .i64 (k : Int)] 3)).alloc (.cells #[.pointer (some ⟨p, 0, none⟩)] 64)).alloc (.cells #[.int .i64 (k : Int)] 3) := ⟨_, rfl⟩
      have hKl : Keeps W Wl := by rw [hWl]; exact Keeps.trans (Keeps.trans (Keeps.alloc _ _) (Keeps.alloc _ _)) (Keeps.alloc _ _)
      have hWs : Wl.heap.size = W.heap.size + 3 := by rw [hWl]; simp
      have bK : Boxed Wl W.heap.size 3 (.int .i64 (k : Int)) := by rw [hWl]; exact ((Boxed.new W _ _).alloc _).alloc _
      have bP : Boxed Wl (W.heap.size + 1) 64 (.pointer (some ⟨p, 0, none⟩)) := by
        rw [hWl]; have := Boxed.new (W.alloc (.cells #[.int .i64 (k : Int)] 3)) 64 (.pointer (some ⟨p, 0, none⟩))
        rw [World.size_alloc] at this; exact this.alloc _
      have bC : Boxed Wl (W.heap.size + 1 + 1) 3 (.int .i64 (k : Int)) := by
        rw [hWl]; have := Boxed.new ((W.alloc (.cells #[.int .i64 (k : Int)] 3)).alloc (.cells #[.pointer (some ⟨p, 0, none⟩)] 64)) 3 (.int .i64 (k : Int))
        rw [World.size_alloc, World.size_alloc] at this; exact this
      have hall := fun W => pall_any (.pointer (some ⟨p, 0, none⟩)) (.int .i64 (k : Int)) ⟨_, rfl⟩ ⟨_, rfl⟩ W
      replace hall := Lib.hid hall
      replace hA := Lib.hid hA
      replace h3 := Lib.hid h3
      replace h4 := Lib.hid h4
      replace h5 := Lib.hid h5
      replace h6 := Lib.hid h6
      replace hno := Lib.hid hno
      replace hK := Lib.hid hK
      replace hDs := Lib.hid hDs
      replace hWl := Lib.hid hWl
      gi_wp2_with (refine ⟨trivial, ?_⟩; gi_at_call 76; refine (callsIn_wide.2 (hall.out _)).mono ?_; rintro e w' ⟨rfl, rfl⟩)
      rw [← hWl.out]
      have hKwl : Keeps w Wl := hK.out.trans hKl
      have hDl : ∀ D ∈ Ds, Wl.heap[D]? = some (.deferred (some [])) := fun D hD => by
        have := (hDs.out D hD).2
        rw [hKl.block D (Array.getElem?_eq_some_iff.1 this).1]; exact this
      obtain ⟨X, hX⟩ : ∃ X, X = R.getD k [] := ⟨_, rfl⟩
      have hst := pall_stops (W.heap.size + 1) (W.heap.size + 1 + 1) w.heap.size (w.heap.size + 1) p rb cap n k pp bb rest R Wl bP bC (by omega) (by omega) hlt (hA.out.keeps hKl)
      rw [← hX] at hst
      refine iter_ruleCN (α := Nat × Int) (encs := fun x : Nat × Int => #[Value.int .i64 (x.1 : Int), .int .i64 x.2]) (xs := placed X X.length) w (w.heap.size + 1) (gf := 78) (lb := #[.pointer (some ⟨W.heap.size + 1, 0, none⟩), .pointer (some ⟨W.heap.size + 1 + 1, 0, none⟩)]) rfl (enters_of Try.func78 (by kernel_rfl) rfl)
        (by rw [placed_len]; exact hst) (Below.refl _ _) hKwl (fun _ => rfl)
        (fun pre W2 => noQ q pre ∧ Boxed W2 w.heap.size 92 (.func (.func g) #[] lb) ∧ Boxed W2 (w.heap.size + 1) 3 (.int .i64 0) ∧ Boxed W2 (w.heap.size + 1 + 1) 3 (.int .i64 0) ∧ Boxed W2 (w.heap.size + 1 + 1 + 1) 4 (.bool false) ∧ Boxed W2 W.heap.size 3 (.int .i64 (k : Int)) ∧ (∀ D ∈ Ds, W2.heap[D]? = some (.deferred (some []))))
        (fun c pre W2 => c = .ret ∧ (∃ (pre0 : List (Nat × Int)) (j : Nat) (z : Int), pre = pre0 ++ [(j, z)] ∧ q z = true ∧ noQ q pre0 ∧ Boxed W2 (w.heap.size + 1) 3 (.int .i64 (k : Int)) ∧ Boxed W2 (w.heap.size + 1 + 1) 3 (.int .i64 (j : Int)) ∧ Boxed W2 (w.heap.size + 1 + 1 + 1) 4 (.bool true)) ∧ (∀ D ∈ Ds, W2.heap[D]? = some (.deferred (some []))))
        (fun pre => (Stays.pure _ _).and ((Stays.boxed _ _ _ _).and ((Stays.boxed _ _ _ _).and ((Stays.boxed _ _ _ _).and ((Stays.boxed _ _ _ _).and ((Stays.boxed _ _ _ _).and ?marks))))))
        (fun c pre => (Stays.pure _ _).and (Stays.and (Stays.ex fun pre0 => Stays.ex fun j => Stays.ex fun z => (Stays.pure _ _).and ((Stays.pure _ _).and ((Stays.pure _ _).and ((Stays.boxed _ _ _ _).and ((Stays.boxed _ _ _ _).and (Stays.boxed _ _ _ _)))))) ?marks2))
        ⟨noQ_nil q, (Blk.keeps (cs := [_]) h3.out hKl), (Blk.keeps (cs := [_]) h4.out hKl), (Blk.keeps (cs := [_]) h5.out hKl), (Blk.keeps (cs := [_]) h6.out hKl), bK, hDl⟩
        (fun x => { tmps := #[.pointer (some ⟨p, 0, none⟩), .func (.func g) #[] lb, undef, .pointer (some ⟨w.heap.size, 0, none⟩), .pointer (some ⟨w.heap.size + 1, 0, none⟩), .pointer (some ⟨w.heap.size + 1 + 1, 0, none⟩), .pointer (some ⟨w.heap.size + 1 + 1 + 1, 0, none⟩), .pointer (some ⟨W.heap.size, 0, none⟩), .int .i64 (x.1 : Int), .int .i64 x.2, .pointer (some ⟨p, 0, none⟩), .bool false, .pointer (some ⟨p, 0, none⟩), .pointer (some ⟨p, 0, none⟩), .pointer (some ⟨p, 0, none⟩), .slice (some ⟨rb, 0, none⟩) n cap, .int .i64 n, .int .i64 k, .bool true, .int .i64 k, .pointer (some ⟨p, 0, none⟩), .int .i64 k, .func (.func 78) #[] #[.pointer (some ⟨W.heap.size + 1, 0, none⟩), .pointer (some ⟨W.heap.size + 1 + 1, 0, none⟩)], .int .i64 (x.1 : Int), .int .i64 x.2, undef, undef, undef, undef, undef, u30], defers := [] })
        ?assign ?body ?done ?stop
      case marks =>
        intro W2 W3 row hs hg hr D hD
        exact markStays Wl.heap.size D (by have := (Array.getElem?_eq_some_iff.1 (hDs.out D hD).2).1; omega) W2 W3 row (hs D hD) hg hr
      case marks2 =>
        intro W2 W3 row hs hg hr D hD
        exact markStays Wl.heap.size D (by have := (Array.getElem?_eq_some_iff.1 (hDs.out D hD).2).1; omega) W2 W3 row (hs D hD) hg hr
      case assign =>
        intro l x W2 K hK2
        gi_wp2
        exact hK2
      case body =>
        rintro l pre x W2 hb2 hlt2 ⟨hq2, g3, g4, g5, g6, gK, gD⟩
        have hc3 := g3.cell
        have hcK := gK.cell
        have hc4 := g4.cell
        have hf4 := g4.frozen
        have hli := hlike.out x.2 W2 hb2
        have hb2s := hb2.size
        cases hqx : q x.2 with
        | false =>
          rw [hqx] at hli
          replace hli := Lib.hid hli
          have hpost := noQ_snoc hq2 hqx
          replace hpost := Lib.hid hpost
          gi_wp2_with (refine ⟨trivial, ?_⟩; refine (CallsIn.inRound l (callsIn_wide.2 hli.out)).mono ?_; rintro e w' ⟨rfl, rfl⟩)
          exact ⟨⟨keepsFrom_keeps (Keeps.refl _), Below.refl _ _, hpost.out, g3, g4, g5, g6, gK, gD⟩, KeepC.refl _ _ _⟩
        | true =>
          rw [hqx] at hli
          have hj : Boxed (W2.setCell ⟨w.heap.size + 1, 0, none⟩ (.int .i64 (k : Int))) (w.heap.size + 1 + 1) 3 (.int .i64 0) := Blk.chg (cs := [_]) g5 (Chg.setCell (S := (· = w.heap.size + 1)) _ _ rfl) (by omega)
          have hb1 : Boxed (W2.setCell ⟨w.heap.size + 1, 0, none⟩ (.int .i64 (k : Int))) (w.heap.size + 1 + 1 + 1) 4 (.bool false) := Blk.chg (cs := [_]) g6 (Chg.setCell (S := (· = w.heap.size + 1)) _ _ rfl) (by omega)
          have hb2 : Boxed ((W2.setCell ⟨w.heap.size + 1, 0, none⟩ (.int .i64 (k : Int))).setCell ⟨w.heap.size + 1 + 1, 0, none⟩ (.int .i64 (x.1 : Int))) (w.heap.size + 1 + 1 + 1) 4 (.bool false) := Blk.chg (cs := [_]) hb1 (Chg.setCell (S := (· = w.heap.size + 1 + 1)) _ _ rfl) (by omega)
          have cj := hj.cell
          have fj := hj.frozen
          have cb := hb2.cell
          have fb := hb2.frozen
          obtain ⟨W3, hW3⟩ : ∃ W3, W3 = ((W2.setCell ⟨w.heap.size + 1, 0, none⟩ (.int .i64 (k : Int))).setCell ⟨w.heap.size + 1 + 1, 0, none⟩ (.int .i64 (x.1 : Int))).setCell ⟨w.heap.size + 1 + 1 + 1, 0, none⟩ (.bool true) := ⟨_, rfl⟩
          have r4 : Boxed W3 (w.heap.size + 1) 3 (.int .i64 (k : Int)) := by rw [hW3]; exact Blk.chg (cs := [_]) (Blk.chg (cs := [_]) (g4.set _) (Chg.setCell (S := (· = w.heap.size + 1 + 1)) _ _ rfl) (by omega)) (Chg.setCell (S := (· = w.heap.size + 1 + 1 + 1)) _ _ rfl) (by omega)
          have r5 : Boxed W3 (w.heap.size + 1 + 1) 3 (.int .i64 (x.1 : Int)) := by rw [hW3]; exact Blk.chg (cs := [_]) (hj.set _) (Chg.setCell (S := (· = w.heap.size + 1 + 1 + 1)) _ _ rfl) (by omega)
          have r6 : Boxed W3 (w.heap.size + 1 + 1 + 1) 4 (.bool true) := by rw [hW3]; exact hb2.set _
          have hko : KeepsOthers W2 W3 := by rw [hW3]; exact ((KeepsOthers.setCell _ _ _).trans (KeepsOthers.setCell _ _ _)).trans (KeepsOthers.setCell _ _ _)
          have hbel : Below w.heap.size W2 W3 := by
            rw [hW3]
            exact ((Chg.setCell (S := (w.heap.size ≤ ·)) _ _ (by show w.heap.size ≤ w.heap.size + 1; omega)).trans ((Chg.setCell (S := (w.heap.size ≤ ·)) _ _ (by show w.heap.size ≤ w.heap.size + 1 + 1; omega)).trans (Chg.setCell (S := (w.heap.size ≤ ·)) _ _ (by show w.heap.size ≤ w.heap.size + 1 + 1 + 1; omega)))).below hb2s (fun j hj => by omega)
          have gD3 : ∀ D ∈ Ds, W3.heap[D]? = some (.deferred (some [])) := fun D hD => hko.same D _ (gD D hD) rfl
          replace hli := Lib.hid hli
          replace hW3 := Lib.hid hW3
          replace r4 := Lib.hid r4
          replace r5 := Lib.hid r5
          replace r6 := Lib.hid r6
          replace hko := Lib.hid hko
          replace hbel := Lib.hid hbel
          replace gD3 := Lib.hid gD3
          replace hq2 := Lib.hid hq2
          gi_wp2_with (refine ⟨trivial, ?_⟩; refine (CallsIn.inRound l (callsIn_wide.2 hli.out)).mono ?_; rintro e w' ⟨rfl, rfl⟩)
          rw [← hW3.out]
          exact ⟨⟨hko.out.from _, hbel.out, rfl, ⟨pre, x.1, x.2, rfl, hqx, hq2.out, r4.out, r5.out, r6.out⟩, gD3.out⟩, fun e => (nomatch e)⟩
      case done =>
        rintro D W2 hD hb2 ⟨hq2, g3, g4, g5, g6, gK, gD⟩ hKD
        have hqX := noQ_any hq2
        have hnd2 : (D :: Ds).Nodup := List.nodup_cons.2 ⟨fun hm => by have := (Array.getElem?_eq_some_iff.1 (hDs.out D hm).2).1; omega, hnd⟩
        have hDs2 : ∀ E ∈ D :: Ds, w.heap.size + 4 ≤ E ∧ W2.heap[E]? = some (.deferred (some [])) := fun E hE => by
          rcases List.mem_cons.1 hE with rfl | hE
          · exact ⟨by omega, hKD⟩
          · exact ⟨(hDs.out E hE).1, gD E hE⟩
        have hno2 : ∀ i, i < k + 1 → (R.getD i []).any q = false := fun i hi => by
          rcases Nat.lt_or_ge i k with h | h
          · exact hno.out i h
          · obtain rfl : i = k := by omega
            rw [← hX]; exact hqX
        replace hno2 := Lib.hid hno2
        replace hDs2 := Lib.hid hDs2
        replace hnd2 := Lib.hid hnd2
        replace hqX := Lib.hid hqX
        replace hq2 := Lib.hid hq2
        replace g3 := Lib.hid g3
        replace g4 := Lib.hid g4
        replace g5 := Lib.hid g5
        replace g6 := Lib.hid g6
        replace hb2 := Lib.hid hb2
        replace gD := Lib.hid gD
        gi_wp2
        rw [show (k : Int) + 1 = ((k + 1 : Nat) : Int) by omega]
        refine ⟨⟨k + 1, D :: Ds, _, _, _, _, _, _, _, rfl, by omega, hnd2.out, hDs2.out, g3.out, g4.out, g5.out, g6.out, hno2.out, hb2.out⟩, ?_⟩
        simp [intOf]; omega
      case stop =>
        rintro D c pre W2 hD hpre hb2 ⟨rfl, ⟨pre0, j, z, rfl, hqz, hq0, r4, r5, r6⟩, gD⟩ hKD
        have hpt := placed_take X _ hpre
        have hle := hpre.length_le
        rw [placed_len, List.length_append, List.length_singleton] at hle
        rw [List.length_append, List.length_singleton, placed_succ] at hpt
        have hpt2 := List.append_inj' hpt rfl
        have hjz : j = pre0.length ∧ z = X.getD pre0.length 0 := by simpa using hpt2.2
        have hfh : findC R q = (k : Int) ∧ findA R q = (j : Int) ∧ findB R q = true := by
          refine find_hit hRk (by rw [← hX]; omega) (by rw [← hX, hjz.1, ← hjz.2]; exact hqz) hno.out (fun i hi => ?_)
          rw [← hX]
          exact hq0 (i, X.getD i 0) (by rw [hpt2.1]; exact List.mem_map.2 ⟨i, List.mem_range.2 (by omega), rfl⟩)
        have hnd2 : (D :: Ds).Nodup := List.nodup_cons.2 ⟨fun hm => by have := (Array.getElem?_eq_some_iff.1 (hDs.out D hm).2).1; omega, hnd⟩
        have hDs2 : ∀ E ∈ D :: Ds, w.heap.size + 4 ≤ E ∧ W2.heap[E]? = some (.deferred (some [])) := fun E hE => by
          rcases List.mem_cons.1 hE with rfl | hE
          · exact ⟨by omega, hKD⟩
          · exact ⟨(hDs.out E hE).1, gD E hE⟩
        replace hpt := Lib.hid hpt
        replace hpt2 := Lib.hid hpt2
        replace hjz := Lib.hid hjz
        replace hle := Lib.hid hle
        replace hfh := Lib.hid hfh
        gi_wp2
        rw [hfh.out.1, hfh.out.2.1, hfh.out.2.2]
        refine ret_marksN (D :: Ds) rfl hnd2 (fun E hE => (hDs2 E hE).2) (v := .tuple #[.int .i64 (k : Int), .int .i64 (j : Int), .bool true]) (fun W' => Boxed W' (w.heap.size + 1) 3 (.int .i64 (k : Int)) ∧ Boxed W' (w.heap.size + 1 + 1) 3 (.int .i64 (j : Int)) ∧ Boxed W' (w.heap.size + 1 + 1 + 1) 4 (.bool true) ∧ Keeps w W') ⟨r4, r5, r6, hb2⟩ ?_ ?_ (fun W' ⟨_, _, _, g⟩ => ⟨rfl, g⟩)
        · rintro E hE W' hW' ⟨a1, a2, a3, a4⟩
          exact ⟨a1.putObj _ hW' rfl, a2.putObj _ hW' rfl, a3.putObj _ hW' rfl, Below.putObj a4 _ (by have := (hDs2 E hE).1; omega) hW'⟩
        · rintro W' ⟨a1, a2, a3, a4⟩
          exact results_cells3 (fn := Try.f62) rfl _ rfl rfl rfl (load_scalar Try.underlying3 rfl a1.cell) (load_scalar Try.underlying3 rfl a2.cell) (load_scalar Try.underlying4 rfl a3.cell)
    · have hc4 := h4.cell
      have hf4 := h4.frozen
      have h6l := h6.lt
      have hj : Boxed (W.setCell ⟨w.heap.size + 1, 0, none⟩ (.int .i64 0)) (w.heap.size + 1 + 1) 3 (.int .i64 0) := Blk.chg (cs := [_]) h5 (Chg.setCell (S := (· = w.heap.size + 1)) _ _ rfl) (by omega)
      have hb1 : Boxed (W.setCell ⟨w.heap.size + 1, 0, none⟩ (.int .i64 0)) (w.heap.size + 1 + 1 + 1) 4 (.bool false) := Blk.chg (cs := [_]) h6 (Chg.setCell (S := (· = w.heap.size + 1)) _ _ rfl) (by omega)
      have hb2 : Boxed ((W.setCell ⟨w.heap.size + 1, 0, none⟩ (.int .i64 0)).setCell ⟨w.heap.size + 1 + 1, 0, none⟩ (.int .i64 0)) (w.heap.size + 1 + 1 + 1) 4 (.bool false) := Blk.chg (cs := [_]) hb1 (Chg.setCell (S := (· = w.heap.size + 1 + 1)) _ _ rfl) (by omega)
      have cj := hj.cell
      have fj := hj.frozen
      have cb := hb2.cell
      have fb := hb2.frozen
      obtain ⟨W3, hW3⟩ : ∃ W3, W3 = ((W.setCell ⟨w.heap.size + 1, 0, none⟩ (.int .i64 0)).setCell ⟨w.heap.size + 1 + 1, 0, none⟩ (.int .i64 0)).setCell ⟨w.heap.size + 1 + 1 + 1, 0, none⟩ (.bool false) := ⟨_, rfl⟩
      have r4 : Boxed W3 (w.heap.size + 1) 3 (.int .i64 0) := by rw [hW3]; exact Blk.chg (cs := [_]) (Blk.chg (cs := [_]) (h4.set _) (Chg.setCell (S := (· = w.heap.size + 1 + 1)) _ _ rfl) (by omega)) (Chg.setCell (S := (· = w.heap.size + 1 + 1 + 1)) _ _ rfl) (by omega)
      have r5 : Boxed W3 (w.heap.size + 1 + 1) 3 (.int .i64 0) := by rw [hW3]; exact Blk.chg (cs := [_]) (hj.set _) (Chg.setCell (S := (· = w.heap.size + 1 + 1 + 1)) _ _ rfl) (by omega)
      have r6 : Boxed W3 (w.heap.size + 1 + 1 + 1) 4 (.bool false) := by rw [hW3]; exact hb2.set _
      have hko : KeepsOthers W W3 := by rw [hW3]; exact ((KeepsOthers.setCell _ _ _).trans (KeepsOthers.setCell _ _ _)).trans (KeepsOthers.setCell _ _ _)
      have hKs := hK.size
      have hbel : Below w.heap.size W W3 := by
        rw [hW3]
        exact ((Chg.setCell (S := (w.heap.size ≤ ·)) _ _ (by show w.heap.size ≤ w.heap.size + 1; omega)).trans ((Chg.setCell (S := (w.heap.size ≤ ·)) _ _ (by show w.heap.size ≤ w.heap.size + 1 + 1; omega)).trans (Chg.setCell (S := (w.heap.size ≤ ·)) _ _ (by show w.heap.size ≤ w.heap.size + 1 + 1 + 1; omega)))).below hKs (fun j hj => by omega)
      have gD3 : ∀ D ∈ Ds, W3.heap[D]? = some (.deferred (some [])) := fun D hD => hko.same D _ (hDs D hD).2 rfl
      have hfm := find_miss (R := R) (q := q) (fun i hi => hno i (by rw [← hRl.out]; exact hi))
      have hKW : Keeps w W3 := Below.trans hK hbel
      replace hfm := Lib.hid hfm
      replace hW3 := Lib.hid hW3
      replace r4 := Lib.hid r4
      replace r5 := Lib.hid r5
      replace r6 := Lib.hid r6
      replace hKW := Lib.hid hKW
      replace gD3 := Lib.hid gD3
      replace hDs := Lib.hid hDs
      clear hbel hko hno hK
      gi_wp2
      rw [← hW3.out, hfm.out.1, hfm.out.2.1, hfm.out.2.2]
      refine ret_marksN Ds rfl hnd gD3.out (v := .tuple #[.int .i64 0, .int .i64 0, .bool false]) (fun W' => Boxed W' (w.heap.size + 1) 3 (.int .i64 0) ∧ Boxed W' (w.heap.size + 1 + 1) 3 (.int .i64 0) ∧ Boxed W' (w.heap.size + 1 + 1 + 1) 4 (.bool false) ∧ Keeps w W') ⟨r4.out, r5.out, r6.out, hKW.out⟩ ?_ ?_ (fun W' ⟨_, _, _, g⟩ => ⟨rfl, g⟩)
      · rintro E hE W' hW' ⟨a1, a2, a3, a4⟩
        exact ⟨a1.putObj _ hW' rfl, a2.putObj _ hW' rfl, a3.putObj _ hW' rfl, Below.putObj a4 _ (by have := (hDs.out E hE).1; omega) hW'⟩
      · rintro W' ⟨a1, a2, a3, a4⟩
        exact results_cells3 (fn := Try.f62) rfl _ rfl rfl rfl (load_scalar Try.underlying3 rfl a1.cell) (load_scalar Try.underlying3 rfl a2.cell) (load_scalar Try.underlying4 rfl a3.cell)
end Go.Proofs.Ytcggbfpangnllaa
