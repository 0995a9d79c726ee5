/- Words of our own for the walks: slices by value, the world kept below the heap's end. -/
import Derived.Test.YtkfeofhifmebkaaGreatDoorChecked
import Derived.WalkKit
import Derived.WalkSpells
import Derived.WalkLawsBesides
import Derived.Lib.Hide
import Derived.RangeFuncBox
import Derived.OwnWalkIn
import Derived.Laws.AppendOwnNone
import Derived.Maps.AppendAt
namespace Go.Proofs.YtkfeofhifmebkaaGreatDoor
open Go.RowKit

theorem ret_int {k : IntKind} {a b : Int} (h : a = b) : Ending.returned (.int k a) = .returned (.int k b) := by rw [h]
theorem ret_bool {a b : Bool} (h : a = b) : Ending.returned (.bool a) = .returned (.bool b) := by rw [h]

/-- A slice value whose elements are one cell each: it reads as the list xs. -/
def Slc (w : World) (v : Value) (xs : List Value) : Prop :=
  ∃ p cap, v = .slice p xs.length cap ∧ xs.length ≤ cap ∧ cap ≤ maxLen ∧ (p = none → cap = 0) ∧
    ∀ k, k < xs.length → ∃ b off, p = some ⟨b, off, none⟩ ∧ w.cell? ⟨b, off + k, none⟩ = some (xs.getD k undef)
/-- The same of integers. -/
def Ints (w : World) (v : Value) (zs : List Int) : Prop := Slc w v (zs.map (Value.int .i64))

theorem cell_lt {w : World} {a : Addr} {v : Value} (h : w.cell? a = some v) : a.block < w.heap.size := by
  unfold World.cell? at h
  cases hb : w.heap[a.block]? with
  | none => rw [hb] at h; cases h
  | some o => exact (Array.getElem?_eq_some_iff.1 hb).1
theorem Slc.below {w w' : World} {v : Value} {xs : List Value} (h : Slc w v xs) (hb : Below w.heap.size w w') : Slc w' v xs := by
  obtain ⟨p, cap, hv, hl, hc, hn, h⟩ := h
  refine ⟨p, cap, hv, hl, hc, hn, fun k hk => ?_⟩
  obtain ⟨b, off, hp, hcell⟩ := h k hk
  exact ⟨b, off, hp, (hb.cell (p := ⟨b, off + k, none⟩) (cell_lt hcell)).trans hcell⟩
theorem Slc.nil (w : World) : Slc w (.slice none 0 0) [] := ⟨none, 0, rfl, Nat.le_refl _, Nat.zero_le _, fun _ => rfl, fun k hk => absurd hk (Nat.not_lt_zero k)⟩
/-- A slice's first k. -/
theorem Slc.take {w : World} {p : Option Addr} {n cap : Nat} {xs : List Value} (h : Slc w (.slice p n cap) xs) (k : Nat) (hk : k ≤ xs.length) : Slc w (.slice p k cap) (xs.take k) := by
  obtain ⟨q, c, hv, hl, hc, hn, h⟩ := h
  simp only [Value.slice.injEq] at hv
  obtain ⟨rfl, rfl, rfl⟩ := hv
  have e : (xs.take k).length = k := by rw [List.length_take]; omega
  refine ⟨p, cap, by rw [e], by omega, hc, hn, fun i hi => ?_⟩
  rw [e] at hi
  obtain ⟨b, off, hp, hcell⟩ := h i (by omega)
  refine ⟨b, off, hp, ?_⟩
  rw [hcell]; simp [List.getD, hi]
theorem Ints.len {w : World} {v : Value} {zs : List Int} (h : Ints w v zs) : zs.length ≤ maxLen := by
  obtain ⟨_, _, _, hl, hc, _⟩ := h; simp at hl; omega
theorem getD_ints (zs : List Int) (k : Nat) (h : k < zs.length) : (zs.map (Value.int .i64)).getD k undef = .int .i64 zs[k] := by
  simp [List.getD, h]
/-- What a walk wants of a slice of integers: its three parts, each cell under its bound. -/
theorem Ints.open {w : World} {v : Value} {zs : List Int} (h : Ints w v zs) : ∃ p cap, v = .slice p zs.length cap ∧ zs.length ≤ cap ∧ cap ≤ 9223372036854775807 ∧
    ∀ k, (hk : k < zs.length) → ∃ b off, p = some ⟨b, off, none⟩ ∧ w.cell? ⟨b, off + k, none⟩ = some (.int .i64 zs[k]) := by
  obtain ⟨p, cap, hv, hl, hc, hn, h⟩ := h
  rw [List.length_map] at hv hl h
  unfold maxLen at hc
  refine ⟨p, cap, hv, hl, hc, fun k hk => ?_⟩
  obtain ⟨b, off, hp, hcell⟩ := h k hk
  exact ⟨b, off, hp, by rw [hcell, getD_ints zs k hk]⟩

/-- Old blocks lie as they lay. -/
abbrev Keeps (w w' : World) : Prop := Below w.heap.size w w'
theorem Keeps.refl (w : World) : Keeps w w := Below.refl _ _
theorem Keeps.trans {a b c : World} (h : Keeps a b) (k : Keeps b c) : Keeps a c := Below.trans h (Below.mono k h.size)
theorem Keeps.alloc (w : World) (o : Obj) : Keeps w (w.alloc o) := (Below.refl _ _).alloc (Nat.le_refl _) o
theorem Keeps.drew (w : World) : Keeps w w.drew := (Below.refl _ _).drew
/-- The cells of old blocks, as rules for a walk. -/
theorem Keeps.rules {w w' : World} (h : Keeps w w') : (∀ b o, b < w.heap.size → w'.cell? ⟨b, o, none⟩ = w.cell? ⟨b, o, none⟩) ∧ (∀ b o, b < w.heap.size → w'.frozen? ⟨b, o, none⟩ = w.frozen? ⟨b, o, none⟩) :=
  ⟨fun b o hb => Below.cell (p := ⟨b, o, none⟩) h hb, fun b o hb => Below.frozen (p := ⟨b, o, none⟩) h hb⟩

/-! ### A block known whole -/
/-- Block b holds the cells cs, all free. -/
def Blk (W : World) (b : Nat) (t : TypeId) (cs : List Value) : Prop := W.heap[b]? = some (.cells cs.toArray t (0, 0))
theorem Blk.lt {W : World} {b : Nat} {t : TypeId} {cs : List Value} (h : Blk W b t cs) : b < W.heap.size := (Array.getElem?_eq_some_iff.1 h).1
theorem Blk.cell {W : World} {b : Nat} {t : TypeId} {cs : List Value} (h : Blk W b t cs) (k : Nat) (hk : k < cs.length) : W.cell? ⟨b, k, none⟩ = some cs[k] := by
  simp [World.cell?, show W.heap[b]? = _ from h, hk]
theorem Blk.cellD {W : World} {b : Nat} {t : TypeId} {cs : List Value} (h : Blk W b t cs) (k : Nat) (hk : k < cs.length) : W.cell? ⟨b, k, none⟩ = some (cs.getD k undef) := by
  rw [h.cell k hk]; simp [List.getD, hk]
theorem Blk.frozen {W : World} {b : Nat} {t : TypeId} {cs : List Value} (h : Blk W b t cs) (k : Nat) : W.frozen? ⟨b, k, none⟩ = false := by
  simp [World.frozen?, show W.heap[b]? = _ from h]
theorem Blk.new (W : World) (t : TypeId) (cs : List Value) : Blk (W.alloc (.cells cs.toArray t)) W.heap.size t cs := World.alloc_heap_new W _
theorem Blk.kept {W W' : World} {row : Option Nat} {b : Nat} {t : TypeId} {cs : List Value} (h : Blk W b t cs) (hg : W.grownBy W' row) (hne : some b ≠ row) : Blk W' b t cs := (hg.block b h.lt hne).trans h
theorem Blk.alloc {W : World} {b : Nat} {t : TypeId} {cs : List Value} (h : Blk W b t cs) (o : Obj) : Blk (W.alloc o) b t cs := h.kept (World.grownBy_alloc W o none) (by simp)
theorem Blk.other {W : World} {b b' : Nat} {t : TypeId} {cs : List Value} (h : Blk W b t cs) (hne : b ≠ b') (k : Nat) (u : Value) : Blk (W.setCell ⟨b', k, none⟩ u) b t cs := by
  show (W.setCell ⟨b', k, none⟩ u).heap[b]? = _
  rw [Below.heap_setCell W ⟨b', k, none⟩ u b hne]; exact h
theorem Blk.set {W : World} {b : Nat} {t : TypeId} {cs : List Value} (h : Blk W b t cs) (k : Nat) (u : Value) : Blk (W.setCell ⟨b, k, none⟩ u) b t (cs.set k u) := by
  obtain ⟨hlt, hk⟩ := Array.getElem?_eq_some_iff.1 h
  show (W.heap.modify b _)[b]? = _
  rw [Array.getElem?_eq_getElem (by rw [Array.size_modify]; exact hlt), Array.getElem_modify_self, hk]
  simp
theorem Blk.below {n : Nat} {W W' : World} {b : Nat} {t : TypeId} {cs : List Value} (h : Blk W b t cs) (hb : Below n W W') (hlt : b < n) : Blk W' b t cs := (hb.block b hlt).trans h
theorem Blk.keeps {W W' : World} {b : Nat} {t : TypeId} {cs : List Value} (h : Blk W b t cs) (hb : Keeps W W') : Blk W' b t cs := h.below hb h.lt
theorem Blk.boxed {W : World} {b : Nat} {t : TypeId} {v : Value} (h : Blk W b t [v]) : Boxed W b t v := h
theorem Boxed.blk {W : World} {b : Nat} {t : TypeId} {v : Value} (h : Boxed W b t v) : Blk W b t [v] := h
/-- A slice over the head of such a block. -/
theorem Blk.slc {W : World} {b : Nat} {t : TypeId} {cs : List Value} (h : Blk W b t cs) (n cap : Nat) (hn : n ≤ cs.length) (hc : n ≤ cap) (hm : cap ≤ maxLen) : Slc W (.slice (some ⟨b, 0, none⟩) n cap) (cs.take n) := by
  have e : (cs.take n).length = n := by rw [List.length_take]; omega
  refine ⟨_, cap, by rw [e], by omega, hm, fun h => (by cases h), fun k hk => ⟨b, 0, rfl, ?_⟩⟩
  rw [e] at hk
  rw [Nat.zero_add, h.cellD k (by omega)]; simp [List.getD, hk]
/-- A row that the call owns reads as a slice. -/
theorem slc_of_row {W : World} {base : Nat} {e : TypeId} {v : Value} {n : Nat} {xs : List Value} (h : W.ownsRow base e 1 v n xs) : Slc W v xs := by
  obtain ⟨hl, h⟩ := h
  rcases h with ⟨rfl, rfl⟩ | ⟨g, cap, cur, rfl, _, hg, hn, hm, hs, ht⟩
  · obtain rfl : xs = [] := List.eq_nil_of_length_eq_zero (by omega)
    exact Slc.nil W
  · have hb : Blk W g e cur.toList := hg
    have := hb.slc n cap (by simp; omega) hn hm
    rw [Nat.mul_one] at ht
    rw [ht] at this
    exact this
theorem slc_row_lt {W : World} {base : Nat} {e : TypeId} {v : Value} {n : Nat} {xs : List Value} (h : W.ownsRow base e 1 v n xs) : ∀ b off l c, v = .slice (some ⟨b, off, none⟩) l c → base ≤ b := by
  rintro b off l c rfl
  rcases h.2 with ⟨h, _⟩ | ⟨g, cap, cur, h, hb, _⟩
  · cases h
  · simp only [Value.slice.injEq, Option.some.injEq, Addr.mk.injEq] at h
    omega

/-! ### 'out = append(out, y)': one element, onto a slice of the call's own -/
theorem app1 {P : Program} {w0 : World} {ops : Array Oper} {rest : List Oper} {o : Oper} {a : Act} {Q : Exit → Act → World → Prop} (hgd : o.guard = none) (s x : Operand) (T e : TypeId) (z0 : Value) (bytes : Nat)
    (ho : o.op = .call { callee := .builtin .append, args := #[s, x], argTypes := #[T, T] }) (ht : P.underlying T = some (.slice e)) (hinfo : (P.info? e).map (fun i => (i.zero, i.size, i.bytes)) = some (some z0, 1, bytes)) (hz : z0.cells.size = 1)
    (base : Nat) (v : Value) (n : Nat) (xs : List Value) (hs : a.eval s = v) (hown : w0.ownsRow base e 1 v n xs) (y : Value) (hx : a.eval x = .slice (some ⟨w0.heap.size, 0, none⟩) 1 1) (hy : y.oneCell' = true)
    (h63 : n + 1 ≤ maxLen) (hbytes : (n + 1) * bytes ≤ 140737488355328) (hbase : base ≤ w0.heap.size)
    (h : ∀ g cap w1, w1.ownsRow base e 1 (.slice (some ⟨g, 0, none⟩) (n + 1) cap) (n + 1) (xs ++ [y]) → (w0.alloc (.cells #[y] e)).grownBy w1 v.ownBlock → Below base w0 w1 → wpList P ops Q rest (a.put o.dst (.slice (some ⟨g, 0, none⟩) (n + 1) cap)) w1) :
    wpList P ops Q (o :: rest) a (w0.alloc (.cells #[y] e)) := by
  obtain ⟨i0, hi, hz0, hz1, hz2⟩ := info_parts hinfo
  refine wpList_append_own _ hgd s x T ho base e i0 z0 1 bytes ht hi hz0 hz1 hz2 hz (by decide) v n xs hs (hown.alloc _) ⟨w0.heap.size, 0, none⟩ 1 1 [y] hx rfl (cell_one_new _ _ _) (by simpa using hy) h63 hbytes (by simp; omega) ?_
  intro v' w1 hown' hgrow _
  obtain ⟨g, cap, rfl⟩ := ownsRow_succ hown'
  refine h g cap w1 hown' hgrow (((Below.refl base w0).alloc hbase _).grown hgrow (by simp; omega) fun j ej => ?_)
  rcases hown.2 with ⟨rfl, _⟩ | ⟨g, cap, cur, rfl, hb, _, _⟩
  · simp [Value.ownBlock] at ej
  · obtain rfl : g = j := by simpa [Value.ownBlock] using ej
    exact hb
theorem app1In {F : Fence} {m : Nat} {P : Program} {w0 : World} {ops : Array Oper} {rest : List Oper} {o : Oper} {a : Act} {Q : Exit → Act → World → Prop} (hgd : o.guard = none) (s x : Operand) (T e : TypeId) (z0 : Value) (bytes : Nat)
    (ho : o.op = .call { callee := .builtin .append, args := #[s, x], argTypes := #[T, T] }) (ht : P.underlying T = some (.slice e)) (hinfo : (P.info? e).map (fun i => (i.zero, i.size, i.bytes)) = some (some z0, 1, bytes)) (hz : z0.cells.size = 1)
    (base : Nat) (v : Value) (n : Nat) (xs : List Value) (hs : a.eval s = v) (hown : w0.ownsRow base e 1 v n xs) (y : Value) (hx : a.eval x = .slice (some ⟨w0.heap.size, 0, none⟩) 1 1) (hy : y.oneCell' = true)
    (h63 : n + 1 ≤ maxLen) (hbytes : (n + 1) * bytes ≤ 140737488355328) (hbase : base ≤ w0.heap.size)
    (h : ∀ g cap w1, w1.ownsRow base e 1 (.slice (some ⟨g, 0, none⟩) (n + 1) cap) (n + 1) (xs ++ [y]) → (w0.alloc (.cells #[y] e)).grownBy w1 v.ownBlock → Below base w0 w1 → wpListIn F m P ops Q rest (a.put o.dst (.slice (some ⟨g, 0, none⟩) (n + 1) cap)) w1) :
    wpListIn F m P ops Q (o :: rest) a (w0.alloc (.cells #[y] e)) := by
  obtain ⟨i0, hi, hz0, hz1, hz2⟩ := info_parts hinfo
  refine wpListIn_append_own _ hgd s x T ho base e i0 z0 1 bytes ht hi hz0 hz1 hz2 hz (by decide) v n xs hs (hown.alloc _) ⟨w0.heap.size, 0, none⟩ 1 1 [y] hx rfl (cell_one_new _ _ _) (by simpa using hy) h63 hbytes (by simp; omega) ?_
  intro v' w1 hown' hgrow _
  obtain ⟨g, cap, rfl⟩ := ownsRow_succ hown'
  refine h g cap w1 hown' hgrow (((Below.refl base w0).alloc hbase _).grown hgrow (by simp; omega) fun j ej => ?_)
  rcases hown.2 with ⟨rfl, _⟩ | ⟨g, cap, cur, rfl, hb, _, _⟩
  · simp [Value.ownBlock] at ej
  · obtain rfl : g = j := by simpa [Value.ownBlock] using ej
    exact hb

/-! ### 'out = append(out, src...)' -/
theorem appS {P : Program} {w0 : World} {ops : Array Oper} {rest : List Oper} {o : Oper} {a : Act} {Q : Exit → Act → World → Prop} (hgd : o.guard = none) (s x : Operand) (T e : TypeId) (z0 : Value) (bytes : Nat)
    (ho : o.op = .call { callee := .builtin .append, args := #[s, x], argTypes := #[T, T] }) (ht : P.underlying T = some (.slice e)) (hinfo : (P.info? e).map (fun i => (i.zero, i.size, i.bytes)) = some (some z0, 1, bytes)) (hz : z0.cells.size = 1)
    (base : Nat) (v : Value) (n : Nat) (xs : List Value) (hs : a.eval s = v) (hown : w0.ownsRow base e 1 v n xs) (sv : Value) (ys : List Value) (hx : a.eval x = sv) (hsrc : Slc w0 sv ys) (hy : ∀ y ∈ ys, y.oneCell' = true)
    (h63 : n + ys.length ≤ maxLen) (hbytes : (n + ys.length) * bytes ≤ 140737488355328) (hbase : base ≤ w0.heap.size)
    (h : ∀ v' w1, w1.ownsRow base e 1 v' (n + ys.length) (xs ++ ys) → w0.grownBy w1 v.ownBlock → Below base w0 w1 → wpList P ops Q rest (a.put o.dst v') w1) :
    wpList P ops Q (o :: rest) a w0 := by
  obtain ⟨i0, hi, hz0, hz1, hz2⟩ := info_parts hinfo
  obtain ⟨p, cap, rfl, hl, hc, hn, hcell⟩ := hsrc
  cases p with
  | none =>
    obtain rfl := hn rfl
    obtain rfl : ys = [] := List.eq_nil_of_length_eq_zero (by omega)
    refine wpList_append_own_none hgd s x T ho base e i0 1 ht hi v n xs hs hown hx ?_
    have := h v w0 (by simpa using hown) ⟨rfl, rfl, rfl, Nat.le_refl _, fun _ _ _ => rfl⟩ (Below.refl _ _)
    exact this
  | some ad =>
    refine wpList_append_own _ hgd s x T ho base e i0 z0 1 bytes ht hi hz0 hz1 hz2 hz (by decide) v n xs hs hown ad ys.length cap ys hx (by simp) ?_ hy h63 hbytes hbase ?_
    · intro j u hu
      obtain ⟨hj, rfl⟩ := List.getElem?_eq_some_iff.1 hu
      obtain ⟨b, off, hp, hk⟩ := hcell j hj
      simp only [Option.some.injEq] at hp
      subst hp
      rw [show (⟨b, off, none⟩ : Addr).add j = ⟨b, off + j, none⟩ by unfold Addr.add; split <;> simp_all, hk]
      simp [List.getD, hj]
    · intro v' w1 hown' hgrow _
      refine h v' w1 hown' hgrow ((Below.refl base w0).grown hgrow hbase fun j ej => ?_)
      rcases hown.2 with ⟨rfl, _⟩ | ⟨g, cap, cur, rfl, hb, _, _⟩
      · simp [Value.ownBlock] at ej
      · obtain rfl : g = j := by simpa [Value.ownBlock] using ej
        exact hb
/-- The same at a step of a region that draws its order; the world there is w0 but for what it drew. -/
theorem appStep {P : Program} {w0 : World} {ops : Array Oper} {o : Oper} {a : Act} {K : Act → World → Prop} {Q : Exit → Act → World → Prop} {E : Prop} (hgd : o.guard = none) (s x : Operand) (T e : TypeId) (z0 : Value) (bytes : Nat)
    (ho : o.op = .call { callee := .builtin .append, args := #[s, x], argTypes := #[T, T] }) (ht : P.underlying T = some (.slice e)) (hinfo : (P.info? e).map (fun i => (i.zero, i.size, i.bytes)) = some (some z0, 1, bytes)) (hz : z0.cells.size = 1)
    (base : Nat) (v : Value) (n : Nat) (xs : List Value) (hs : a.eval s = v) (hown : w0.ownsRow base e 1 v n xs) (p : Option Addr) (m c : Nat) (ys : List Value) (hx : a.eval x = .slice p m c) (hp : p ≠ none) (hsrc : Slc w0 (.slice p m c) ys) (hy : ∀ y ∈ ys, y.oneCell' = true)
    (h63 : n + ys.length ≤ maxLen) (hbytes : (n + ys.length) * bytes ≤ 140737488355328) (hbase : base ≤ w0.heap.size)
    (h : ∀ v' w1, w1.ownsRow base e 1 v' (n + ys.length) (xs ++ ys) → w0.grownBy w1 v.ownBlock → Below base w0 w1 → K (a.put o.dst v') w1) :
    if Region.wanted o (yielded ops a.tmps) = true then Oper.wp P o a w0 K Q else E := by
  have hw : Region.wanted o (yielded ops a.tmps) = true := by simp [Region.wanted, hgd]
  rw [if_pos hw]
  obtain ⟨i0, hi, hz0, hz1, hz2⟩ := info_parts hinfo
  obtain ⟨p', cap, hv, hl, hc, hn, hcell⟩ := hsrc
  obtain ⟨rfl, rfl, rfl⟩ : p = p' ∧ m = ys.length ∧ c = cap := by simpa using hv
  cases p with
  | none => exact absurd rfl hp
  | some ad =>
    refine wp_append_own _ s x T ho base e i0 z0 1 bytes ht hi hz0 hz1 hz2 hz (by decide) v n xs hs hown ad ys.length c ys hx (by simp) ?_ hy h63 hbytes hbase ?_
    · intro j u hu
      obtain ⟨hj, rfl⟩ := List.getElem?_eq_some_iff.1 hu
      obtain ⟨b, off, hp, hk⟩ := hcell j hj
      simp only [Option.some.injEq] at hp
      subst hp
      rw [show (⟨b, off, none⟩ : Addr).add j = ⟨b, off + j, none⟩ by unfold Addr.add; split <;> simp_all, hk]
      simp [List.getD, hj]
    · intro v' w1 hown' hgrow _
      refine h v' w1 hown' hgrow ((Below.refl base w0).grown hgrow hbase fun j ej => ?_)
      rcases hown.2 with ⟨rfl, _⟩ | ⟨g, cap, cur, rfl, hb, _, _⟩
      · simp [Value.ownBlock] at ej
      · obtain rfl : g = j := by simpa [Value.ownBlock] using ej
        exact hb
theorem ownsRow_empty (w : World) (e : TypeId) (base : Nat) (hb : base ≤ w.heap.size) : (w.alloc (.cells #[] e)).ownsRow base e 1 (.slice (some ⟨w.heap.size, 0, none⟩) 0 0) 0 [] :=
  ⟨rfl, .inr ⟨w.heap.size, 0, #[], rfl, hb, World.alloc_heap_new w _, Nat.le_refl _, Nat.zero_le _, rfl, rfl⟩⟩
/-- A new slice of given integers. -/
theorem ints_new (w : World) (T : TypeId) (zs : List Int) (h : zs.length ≤ maxLen) : Ints (w.alloc (.cells (zs.map (Value.int .i64)).toArray T)) (.slice (some ⟨w.heap.size, 0, none⟩) zs.length zs.length) zs := by
  have := (Blk.new w T (zs.map (Value.int .i64))).slc zs.length zs.length (by simp) (Nat.le_refl _) h
  rw [List.take_of_length_le (by simp)] at this
  exact this
theorem ints_at (w : World) (T : TypeId) (zs : List Int) (b : Nat) (hb : b = w.heap.size) (h : zs.length ≤ maxLen) : Ints (w.alloc (.cells (zs.map (Value.int .i64)).toArray T)) (.slice (some ⟨b, 0, none⟩) zs.length zs.length) zs := by
  subst hb; exact ints_new w T zs h
theorem Ints.take {w : World} {p : Option Addr} {n cap : Nat} {zs : List Int} (h : Ints w (.slice p n cap) zs) (k : Nat) (hk : k ≤ zs.length) : Ints w (.slice p k cap) (zs.take k) := by
  have := Slc.take h k (by simpa using hk)
  rw [← List.map_take] at this
  exact this
/-- 'l[:min(len(l), k)]', ahead of a walk: what it comes to on both sides. -/
theorem Ints.upto {w : World} {v : Value} {zs : List Int} (h : Ints w v zs) (k : Nat) : ∃ p cap, v = .slice p zs.length cap ∧ zs.length ≤ cap ∧ cap ≤ 9223372036854775807 ∧ 0 ≤ (zs.length : Int) ∧
    ((zs.length ≤ k ∧ Ints w (.slice p zs.length cap) zs) ∨ (k < zs.length ∧ Ints w (.slice p k cap) (zs.take k))) := by
  obtain ⟨p, cap, rfl, hl, hc, _⟩ := h.open
  refine ⟨p, cap, rfl, hl, hc, by omega, ?_⟩
  by_cases hk : zs.length ≤ k
  · exact .inl ⟨hk, h⟩
  · exact .inr ⟨by omega, h.take k (by omega)⟩

/-! ### make([]T, n) of one-cell elements -/
/-- n times z. -/
def zeros (n : Nat) (z : Value) : List Value := List.replicate n z
theorem zeros_len (n : Nat) (z : Value) : (zeros n z).length = n := by simp [zeros]
theorem zeros_get (n : Nat) (z : Value) (k : Nat) (hk : k < n) : (zeros n z).getD k undef = z := by simp [zeros, List.getD, hk]
theorem make_run {P : Program} (T e : TypeId) (z : Value) (bytes : Nat) (ht : P.underlying T = some (.slice e)) (hinfo : (P.info? e).map (fun i => (i.zero, i.size, i.bytes)) = some (some z, 1, bytes)) (hz : z.cells = #[z])
    (n : Nat) (hn : bytes * n ≤ 281474976710656) (h63 : n ≤ 9223372036854775807) (w : World) :
    (Instr.makeSlice T (.int .i64 (n : Int)) (.int .i64 (n : Int))).run P w = .ok (.slice (some ⟨w.heap.size, 0, none⟩) n n) (w.alloc (.cells (zeros n z).toArray e)) := by
  obtain ⟨i, hi, h1, h2, h3⟩ := info_parts hinfo
  have h := run_make (P := P) w T e i z ht hi h1 .i64 .i64 (n : Int) (n : Int) (by omega) (by omega) (by rw [h3]; omega) (by omega)
  rw [h, h2, hz]
  simp only [Int.toNat_natCast, Nat.mul_one]
  congr 3
  apply Array.ext
  · simp [madeCells, zeros]
  · intro j h1 h2
    simp [madeCells, zeros, Nat.mod_one]

/-! ### Slices of structs -/
/-- A slice whose elements are sz cells each. -/
def SlcS (sz : Nat) (w : World) (v : Value) (els : List (List Value)) : Prop :=
  ∃ p cap, v = .slice p els.length cap ∧ els.length ≤ cap ∧ cap ≤ maxLen ∧ (p = none → cap = 0) ∧ (∀ el ∈ els, el.length = sz) ∧
    ∀ i, i < els.length → ∃ b off, p = some ⟨b, off, none⟩ ∧ ∀ j, j < sz → w.cell? ⟨b, off + i * sz + j, none⟩ = some ((els.getD i []).getD j undef)
theorem SlcS.below {sz : Nat} {w w' : World} {v : Value} {els : List (List Value)} (h : SlcS sz w v els) (hb : Below w.heap.size w w') : SlcS sz w' v els := by
  obtain ⟨p, cap, hv, hl, hc, hn, hs, h⟩ := h
  refine ⟨p, cap, hv, hl, hc, hn, hs, fun i hi => ?_⟩
  obtain ⟨b, off, hp, hcell⟩ := h i hi
  exact ⟨b, off, hp, fun j hj => (hb.cell (p := ⟨b, off + i * sz + j, none⟩) (cell_lt (hcell j hj))).trans (hcell j hj)⟩
theorem SlcS.nil (sz : Nat) (w : World) : SlcS sz w (.slice none 0 0) [] := ⟨none, 0, rfl, Nat.le_refl _, Nat.zero_le _, fun _ => rfl, fun _ h => (by cases h), fun k hk => absurd hk (Nat.not_lt_zero k)⟩
/-- What a walk wants. -/
theorem SlcS.get {sz : Nat} {w : World} {v : Value} {els : List (List Value)} (h : SlcS sz w v els) : ∃ p cap, v = .slice p els.length cap ∧ els.length ≤ cap ∧ cap ≤ 9223372036854775807 ∧
    ∀ i, i < els.length → ∃ b off, p = some ⟨b, off, none⟩ ∧ ∀ j, j < sz → w.cell? ⟨b, off + i * sz + j, none⟩ = some ((els.getD i []).getD j undef) := by
  obtain ⟨p, cap, hv, hl, hc, _, _, h⟩ := h
  exact ⟨p, cap, hv, hl, hc, h⟩
end Go.Proofs.YtkfeofhifmebkaaGreatDoor
