/- WorkPlays: a call on both: the walk. -/
import Derived.Test.YtcggbfpangnllaaPlay27
import Derived.Test.YtcggbfpangnllaaSeqC
import Derived.Deep.DeepCutAuto
import Derived.Deep.CutBlock
namespace Go.Proofs.Ytcggbfpangnllaa
open Go.RowKit i64

section
variable {w W W' : World} {k p rb cap n : Nat} {pp bb : Nat → Nat} {s : WS} {Q Rn : List Th} {Z : Nat → Prop} {vq vr va : Value}
theorem PR.lens (h : PR w p rb cap n pp bb Q Rn W) : (Q.map (·.1)).Nodup ∧ Q.length ≤ 256 ∧ Rn.length ≤ 256 := by
  obtain ⟨fr, fo, R, h1, h2, h3⟩ := h
  refine ⟨h2.nd, ?_, ?_⟩
  · have := pigeon 256 (Q.map (·.1)) h2.nd (fun x hx => by
      obtain ⟨y, hy, rfl⟩ := List.mem_map.1 hx
      have := h2.rng h1.ok hy
      omega)
    simpa using this
  · have := pigeon 256 (Rn.map (·.1)) h3.nd (fun x hx => by
      obtain ⟨y, hy, rfl⟩ := List.mem_map.1 hx
      obtain ⟨i, c, hi, _, rfl, _⟩ := h3.a y hy
      show 0 ≤ (i : Int) ∧ (i : Int) < ((256 : Nat) : Int)
      omega)
    simpa using this
theorem WI.hon (h : WI w k p rb cap n pp bb s W) (ho : OkP n s) : ∀ c, c < 32 → 0 ≤ s.on c ∧ s.on c ≤ 64 := fun c hc => ⟨h.onp c, by have := ho.on c hc; have := h.n64; omega⟩
theorem busy_same (ho : OkP n s) (c : Int) : busyR s.on c = busyW n s.on c := by
  unfold busyR busyW
  by_cases h1 : c < 0
  · rw [if_pos h1, if_pos (.inl h1)]
  · rw [if_neg h1]
    by_cases h2 : (n : Int) ≤ c
    · rw [if_pos (.inr h2)]
      have : ∀ j, j ≤ 32 → cntTo s.on (c + 1) j = 0 := by
        intro j
        induction j with
        | zero => intro _; rfl
        | succ j ih =>
          intro hj
          unfold cntTo
          rw [ih (by omega), if_neg (by have := ho.on j (by omega); omega)]
      exact this 32 (Nat.le_refl _)
    · rw [if_neg (by omega)]
/-- The program's works and the document's, side by side; Z: the blocks that the document's lists don't lie in. -/
structure DI (w : World) (k p rb cap n : Nat) (pp bb : Nat → Nat) (Z : Nat → Prop) (vq vr va : Value) (s : WS) (W : World) : Prop where
  wi : WI w k p rb cap n pp bb s W
  ok : OkP n s
  rw : RW Z W vq vr va s
  low : ∀ b, Z b → b < W.heap.size
  fw : ∀ b, FW k p rb n pp bb b → Z b
theorem DI.kept (h : DI w k p rb cap n pp bb Z vq vr va s W) (hk : Keeps W W') : DI w k p rb cap n pp bb Z vq vr va s W' :=
  ⟨h.wi.kept hk, h.ok, h.rw.kept hk, fun b hb => Nat.lt_of_lt_of_le (h.low b hb) hk.size, h.fw⟩
/-- The document's step is made. -/
structure DN (w : World) (k p rb cap n : Nat) (pp bb : Nat → Nat) (Z : Nat → Prop) (uq ur ua : Value) (s s' : WS) (W : World) : Prop where
  wi : WI w k p rb cap n pp bb s W
  ok' : OkP n s'
  rw : RW Z W uq ur ua s'
  low : ∀ b, Z b → b < W.heap.size
  fw : ∀ b, FW k p rb n pp bb b → Z b
theorem DN.kept {uq ur ua : Value} {s' : WS} (h : DN w k p rb cap n pp bb Z uq ur ua s s' W) (hk : Keeps W W') : DN w k p rb cap n pp bb Z uq ur ua s s' W' :=
  ⟨h.wi.kept hk, h.ok', h.rw.kept hk, fun b hb => Nat.lt_of_lt_of_le (h.low b hb) hk.size, h.fw⟩
/-- The program's step is made, too. -/
theorem DN.done {uq ur ua : Value} {s' : WS} (h : DN w k p rb cap n pp bb Z uq ur ua s s' W) (hI : WI w k p rb cap n pp bb s' W') (hC : Chg (FW k p rb n pp bb) W W') : DI w k p rb cap n pp bb Z uq ur ua s' W' :=
  ⟨hI, h.ok', h.rw.chg hC h.fw, fun b hb => Nat.lt_of_lt_of_le (h.low b hb) hC.size, h.fw⟩
/-- Z grows by new blocks. -/
theorem DI.more (h : DI w k p rb cap n pp bb Z vq vr va s W) {R : Nat} (hK : Keeps W W') (hR : W.heap.size ≤ R) (hR' : R < W'.heap.size) : DI w k p rb cap n pp bb (fun b => Z b ∨ b = R) vq vr va s W' :=
  ⟨h.wi.kept hK, h.ok, (h.rw.more fun b hb => hb.elim .inl (fun e => .inr (by omega))).kept hK, fun b hb => hb.elim (fun hz => Nat.lt_of_lt_of_le (h.low b hz) hK.size) (fun e => by omega), fun b hb => .inl (h.fw b hb)⟩
/-- The document's calls, told of both. -/
theorem DI.rset (h : DI w k p rb cap n pp bb Z vq vr va s W) (id prog : Int) : Calls Try.prog 44 #[rk n vq vr va s.on, .int .i64 id, .int .i64 prog] W fun e W' => ∃ ua, e = .returned (.tuple #[rk n vq vr ua (setW s id prog).1.on, .int .i64 (setW s id prog).2]) ∧ DN w k p rb cap n pp bb Z vq vr ua s (setW s id prog).1 W' ∧ Keeps W W' := by
  refine (rset27_any h.rw h.low id prog).mono ?_
  rintro e W' ⟨ua, he, hr, hK⟩
  refine ⟨ua, ?_, ⟨h.wi.kept hK, h.ok.set id prog, hr, fun b hb => Nat.lt_of_lt_of_le (h.low b hb) hK.size, h.fw⟩, hK⟩
  rw [he]
  have : (setW s id prog).1.on = s.on := by unfold setW; (repeat' split) <;> rfl
  rw [this]
theorem DI.rpost (h : DI w k p rb cap n pp bb Z vq vr va s W) (id c : Int) : Calls Try.prog 45 #[rk n vq vr va s.on, .int .i64 id, .int .i64 c] W fun e W' => ∃ uq ur ua, e = .returned (.tuple #[rk n uq ur ua (postW n s id c).1.on, .int .i64 (postW n s id c).2]) ∧ DN w k p rb cap n pp bb Z uq ur ua s (postW n s id c).1 W' ∧ Keeps W W' := by
  have hl := h.wi.pr.lens
  refine (rpost27_any h.rw h.low (by omega) (fun i => (h.wi.rng i).1) id c).mono ?_
  rintro e W' ⟨uq, ur, ua, he, hr, hK⟩
  refine ⟨uq, ur, ua, ?_, ⟨h.wi.kept hK, h.ok.post id c, hr, fun b hb => Nat.lt_of_lt_of_le (h.low b hb) hK.size, h.fw⟩, hK⟩
  rw [he]
  have : (postW n s id c).1.on = s.on := by unfold postW; (repeat' split) <;> rfl
  rw [this]
theorem DI.rstop (h : DI w k p rb cap n pp bb Z vq vr va s W) (id : Int) : Calls Try.prog 46 #[rk n vq vr va s.on, .int .i64 id] W fun e W' => ∃ uq ur ua, e = .returned (.tuple #[rk n uq ur ua (stopW s id).1.on, .bool (stopW s id).2.1, .int .i64 (stopW s id).2.2]) ∧ DN w k p rb cap n pp bb Z uq ur ua s (stopW s id).1 W' ∧ Keeps W W' := by
  have hl := h.wi.pr.lens
  refine (rstop27_any h.rw h.low (by omega) (fun i => (h.wi.rng i).1) id).mono ?_
  rintro e W' ⟨uq, ur, ua, he, hr, hK⟩
  refine ⟨uq, ur, ua, ?_, ⟨h.wi.kept hK, h.ok.stop id, hr, fun b hb => Nat.lt_of_lt_of_le (h.low b hb) hK.size, h.fw⟩, hK⟩
  rw [he]
  have : (stopW s id).1.on = s.on := by unfold stopW; (repeat' split) <;> rfl
  rw [this]
theorem DI.rbegin (h : DI w k p rb cap n pp bb Z vq vr va s W) (c x : Int) : Calls Try.prog 47 #[rk n vq vr va s.on, .int .i64 c, .int .i64 x] W fun e W' => ∃ uq ur ua, e = .returned (.tuple #[rk n uq ur ua (beginW n s c x).1.on, .int .i64 (beginW n s c x).2.1, .int .i64 (beginW n s c x).2.2.1, .int .i64 (beginW n s c x).2.2.2]) ∧ DN w k p rb cap n pp bb Z uq ur ua s (beginW n s c x).1 W' ∧ Keeps W W' := by
  have hl := h.wi.pr.lens
  refine (rbegin27_any h.rw h.low (by omega) (by omega) (h.wi.hon h.ok) c x (by rw [busy_same h.ok]; exact h.wi.busy_le c) (fun he => (h.wi.pr.begY he).2.2.1)).mono ?_
  rintro e W' ⟨uq, ur, ua, he, hr, hK⟩
  exact ⟨uq, ur, ua, he, ⟨h.wi.kept hK, h.ok.begin c x, hr, fun b hb => Nat.lt_of_lt_of_le (h.low b hb) hK.size, h.fw⟩, hK⟩
theorem DI.rend (h : DI w k p rb cap n pp bb Z vq vr va s W) (x : Int) : Calls Try.prog 48 #[rk n vq vr va s.on, .int .i64 x] W fun e W' => ∃ uq ur ua, e = .returned (.tuple #[rk n uq ur ua (endW s x).1.on, .int .i64 (endW s x).2.1, .int .i64 (endW s x).2.2]) ∧ DN w k p rb cap n pp bb Z uq ur ua s (endW s x).1 W' ∧ Keeps W W' := by
  have hl := h.wi.pr.lens
  refine (rend27_any h.rw h.low (by omega) x (fun he => h.wi.pr.ctx he)).mono ?_
  rintro e W' ⟨uq, ur, ua, he, hr, hK⟩
  exact ⟨uq, ur, ua, he, ⟨h.wi.kept hK, h.ok.end' x, hr, fun b hb => Nat.lt_of_lt_of_le (h.low b hb) hK.size, h.fw⟩, hK⟩
theorem DI.rshut (h : DI w k p rb cap n pp bb Z vq vr va s W) (id : Int) : Calls Try.prog 49 #[rk n vq vr va s.on, .int .i64 id] W fun e W' => ∃ uq ur ua, e = .returned (.tuple #[rk n uq ur ua (shutR s id).1.on, .bool (shutR s id).2]) ∧ DN w k p rb cap n pp bb Z uq ur ua s (shutR s id).1 W' ∧ Keeps W W' := by
  have hl := h.wi.pr.lens
  refine (rshut27_any h.rw h.low (by omega) id).mono ?_
  rintro e W' ⟨uq, ur, ua, he, hr, hK⟩
  refine ⟨uq, ur, ua, ?_, ⟨h.wi.kept hK, h.ok.shut hl.1 id, hr, fun b hb => Nat.lt_of_lt_of_le (h.low b hb) hK.size, h.fw⟩, hK⟩
  rw [he]
  have : (shutR s id).1.on = s.on := by unfold shutR; (repeat' split) <;> rfl
  rw [this]
theorem DI.rclear (h : DI w k p rb cap n pp bb Z vq vr va s W) (id : Int) : Calls Try.prog 50 #[rk n vq vr va s.on, .int .i64 id] W fun e W' => ∃ uq ur ua, e = .returned (.tuple #[rk n uq ur ua (clearW s id).1.on, .int .i64 (clearW s id).2]) ∧ DN w k p rb cap n pp bb Z uq ur ua s (clearW s id).1 W' ∧ Keeps W W' := by
  have hl := h.wi.pr.lens
  refine (rclear27_any h.rw h.low (by omega) id).mono ?_
  rintro e W' ⟨uq, ur, ua, he, hr, hK⟩
  refine ⟨uq, ur, ua, ?_, ⟨h.wi.kept hK, h.ok.clear id, hr, fun b hb => Nat.lt_of_lt_of_le (h.low b hb) hK.size, h.fw⟩, hK⟩
  rw [he]
  have : (clearW s id).1.on = s.on := by unfold clearW; (repeat' split) <;> rfl
  rw [this]
end
end Go.Proofs.Ytcggbfpangnllaa
