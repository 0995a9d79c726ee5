/- The laws of layer 25: what holds while a law goes; known; PendNil. -/
import Derived.Test.YtcggbfpangnllaaPendH
import Derived.Test.YtcggbfpangnllaaSame
import Derived.Test.YtcggbfpangnllaaModn
namespace Go.Proofs.Ytcggbfpangnllaa
open Go.RowKit i64

theorem OkQ.sub {R R' : List (List Int)} (h : OkQ R) (hs : ∀ i, (R'.getD i []).Sublist (R.getD i [])) : OkQ R' :=
  ⟨fun i x hx => h.rng i x ((hs i).subset hx), fun i => (hs i).nodup (h.nd i), fun i j x hx hy => h.uniq i j x ((hs i).subset hx) ((hs j).subset hy)⟩
theorem OkQ.pop {R : List (List Int)} (h : OkQ R) {k : Nat} {x : Int} {xs : List Int} (hk : R.getD k [] = x :: xs) : OkQ (R.set k xs) := by
  refine h.sub fun i => ?_
  have hl : k < R.length := getD_lt (x := x) (by rw [hk]; simp)
  rw [getD_set R k i xs hl]
  split
  · rename_i e; rw [e, hk]; exact List.sublist_cons_self _ _
  · exact List.Sublist.refl _
theorem OkQ.none (n : Nat) : OkQ (List.replicate n []) := by
  have e : ∀ i, (List.replicate n ([] : List Int)).getD i [] = [] := fun i => by
    simp only [List.getD, List.getElem?_replicate]
    split <;> rfl
  refine ⟨fun i x hx => ?_, fun i => ?_, fun i j x hx => ?_⟩
  · rw [e] at hx; cases hx
  · rw [e]; exact List.nodup_nil
  · rw [e] at hx; cases hx
theorem ints_one25 (W : World) (x : Int) : Ints (W.alloc (.cells #[.int .i64 x] 3)) (.slice (some ⟨W.heap.size, 0, none⟩) 1 1) [x] := ints_new W 3 [x] (by simp [maxLen])
/-- What holds while a law goes: what is pending, whose blocks are the law's own. -/
structure PI (w : World) (p rb cap n : Nat) (pp bb : Nat → Nat) (fr fo : Nat → Int) (R : List (List Int)) (W : World) : Prop where
  at' : PendAt W p rb cap n pp bb (restL fr fo) R
  ok : OkQ R
  new : ∀ k, Foot p rb n pp bb k → w.heap.size ≤ k
  keeps : Keeps w W
section
variable {w W W' : World} {p rb cap n : Nat} {pp bb : Nat → Nat} {fr fo fr' fo' : Nat → Int} {R R' : List (List Int)}
theorem PI.kept (h : PI w p rb cap n pp bb fr fo R W) (hk : Keeps W W') : PI w p rb cap n pp bb fr fo R W' := ⟨h.at'.keeps hk, h.ok, h.new, Keeps.trans h.keeps hk⟩
theorem PI.chg (h : PI w p rb cap n pp bb fr fo R W) (ha : PendAt W' p rb cap n pp bb (restL fr' fo') R') (ho : OkQ R') (hc : Chg (Foot p rb n pp bb) W W') : PI w p rb cap n pp bb fr' fo' R' W' := ⟨ha, ho, h.new, Chg.keeps hc h.keeps (fun k hk hs => by have := h.new k hs; omega)⟩
theorem PI.chgP (h : PI w p rb cap n pp bb fr fo R W) (ha : PendAt W' p rb cap n pp bb (restL fr' fo') R') (ho : OkQ R') (hc : Chg (· = p) W W') : PI w p rb cap n pp bb fr' fo' R' W' := h.chg ha ho (hc.mono fun _ _ hs => .inl hs)
theorem PI.addS (h : PI w p rb cap n pp bb fr fo R W) (c : Nat) (hc : c < n) (ids : List Int) (hl : ids.length ≤ maxLen) (sb : Nat) (hsb : sb = W.heap.size) (l : Nat) (hll : l = ids.length) :
    Calls Try.prog 32 #[.pointer (some ⟨p, 0, none⟩), .int .i64 c, .slice (some ⟨sb, 0, none⟩) l l] (W.alloc (.cells (ids.map (Value.int .i64)).toArray 3)) fun e W' => e = .returned (.int .i64 (addR R c ids).2) ∧ PI w p rb cap n pp bb fr fo (addR R c ids).1 W' := by
  subst hsb; subst hll
  have hk := h.kept (Keeps.alloc W (.cells (ids.map (Value.int .i64)).toArray 3))
  refine (padd_any hk.at' hk.ok c hc _ ids (ints_new W 3 ids hl) (fun k hk2 _ hf => ?_)).mono ?_
  · have := h.at'.foot_lt k hf
    simp [Value.ownBlock] at hk2
    omega
  · rintro e W' ⟨he, ha, ho, hC⟩
    exact ⟨he, hk.chg ha ho hC⟩
theorem PI.delS (h : PI w p rb cap n pp bb fr fo R W) (ids : List Int) (hl : ids.length ≤ maxLen) (sb : Nat) (hsb : sb = W.heap.size) (l : Nat) (hll : l = ids.length) :
    Calls Try.prog 39 #[.pointer (some ⟨p, 0, none⟩), .slice (some ⟨sb, 0, none⟩) l l] (W.alloc (.cells (ids.map (Value.int .i64)).toArray 3)) fun e W' => e = .returned (.int .i64 (delN R ids : Nat)) ∧ PI w p rb cap n pp bb fr fo (delR R ids) W' := by
  subst hsb; subst hll
  have hk := h.kept (Keeps.alloc W (.cells (ids.map (Value.int .i64)).toArray 3))
  refine (pdel_any hk.at' hk.ok _ ids (ints_new W 3 ids hl) (fun k hk2 _ hf => ?_)).mono ?_
  · have := h.at'.foot_lt k hf
    simp [Value.ownBlock] at hk2
    omega
  · rintro e W' ⟨he, ha, hC⟩
    exact ⟨he, hk.chg ha (hk.ok.delR ids) hC⟩
theorem PI.begin (h : PI w p rb cap n pp bb fr fo R W) (k c x : Nat) (xs : List Int) (hk : k < n) (hc : c < 32) (h0 : fo c = 0) (hq0 : R.getD k [] = (x : Int) :: xs) (hfr : fr x = 0) : Calls Try.prog 34 #[.pointer (some ⟨p, 0, none⟩), .int .i64 k, .int .i64 c] W fun e W' => e = .returned (.tuple #[.int .i64 x, .int .i64 0]) ∧
    PI w p rb cap n pp bb (updI fr x ((c : Int) + 1)) (updI fo c ((x : Int) + 1)) (R.set k xs) W' := by
  have hx := h.ok.rng k x (by rw [hq0]; simp)
  refine (begin_yes h.at' k c x xs hk hc h0 (by omega) hq0 hfr).mono ?_
  rintro e W' ⟨he, ha, hC⟩
  exact ⟨he, h.chg ha (h.ok.pop hq0) hC⟩
theorem PI.endY (h : PI w p rb cap n pp bb fr fo R W) (c x : Nat) (hc : c < 32) (hx : x < 256) (h0 : fo c = (x : Int) + 1) : Calls Try.prog 37 #[.pointer (some ⟨p, 0, none⟩), .int .i64 c] W fun e W' => e = .returned (.tuple #[.int .i64 x, .int .i64 0]) ∧ PI w p rb cap n pp bb (updI fr x 0) (updI fo c 0) R W' := by
  refine (pend_yes h.at' c x hc hx h0).mono ?_
  rintro e W' ⟨he, ha, hC⟩
  exact ⟨he, h.chgP ha h.ok hC⟩
theorem PI.start {n : Nat} (h1 : 1 ≤ n) (h2 : n ≤ 64) (w : World) : Calls Try.prog 28 #[.int .i64 n] w fun e w' => ∃ p rb cap pp bb, e = .returned (.tuple #[.pointer (some ⟨p, 0, none⟩), .int .i64 0]) ∧ PI w p rb cap n pp bb (fun _ => 0) (fun _ => 0) (List.replicate n []) w' := by
  refine (pnew_yes n w h1 h2).mono ?_
  rintro e w' ⟨p, rb, cap, pp, bb, he, hL, hF, hK⟩
  exact ⟨p, rb, cap, pp, bb, he, by rw [restL_zero]; exact hL, OkQ.none n, hF, hK⟩
end
end Go.Proofs.Ytcggbfpangnllaa
