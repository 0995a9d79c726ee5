/- The document's answer for works, in memory; is, Busy, set: the walks. -/
import Derived.Test.YtcggbfpangnllaaWorkE
import Derived.Test.YtcggbfpangnllaaRef25c
import Derived.Deep.MidRow
namespace Go.Proofs.Ytcggbfpangnllaa
open Go.RowKit i64

/-- What each work is, in the document's list. -/
def allE (sh : Nat → Bool) (pr : Nat → Int) : List (List Value) := (List.range 256).map fun i => [.bool (sh i), .int .i64 (pr i - 1)]
theorem allE_len (sh : Nat → Bool) (pr : Nat → Int) : (allE sh pr).length = 256 := by simp [allE]
theorem allE_get (sh : Nat → Bool) (pr : Nat → Int) (i : Nat) (h : i < 256) : (allE sh pr).getD i [] = [.bool (sh i), .int .i64 (pr i - 1)] := by simp [allE, List.getD, h]
theorem allE_set (sh : Nat → Bool) (pr : Nat → Int) (i : Nat) (b : Bool) (z : Int) : (allE sh pr).set i [.bool b, .int .i64 (z - 1)] = allE (updB sh i b) (updI pr i z) := by
  unfold allE
  apply List.ext_getElem
  · simp
  · intro j h1 h2
    rw [List.getElem_set]
    simp only [List.getElem_map, List.getElem_range]
    unfold updB updI
    by_cases e : i = j
    · subst e; simp
    · have e2 : ¬ j = i := fun h => e h.symm
      rw [if_neg e, if_neg e2, if_neg e2]
theorem all_one (sh : Nat → Bool) (pr : Nat → Int) : ∀ el ∈ allE sh pr, ∀ y ∈ el, y.oneCell' = true := by
  intro el hel y hy
  obtain ⟨i, _, rfl⟩ := List.mem_map.1 hel
  simp only [List.mem_cons, List.not_mem_nil, or_false] at hy
  rcases hy with rfl | rfl <;> rfl
/-- The document's works, as cells. -/
def onR (on : Nat → Int) : List Value := (List.range 32).map fun c => .int .i64 (on c - 1)
theorem onR_get (on : Nat → Int) (c : Nat) (h : c < 32) : (onR on)[c]? = some (.int .i64 (on c - 1)) := by simp [onR, h]
theorem onR_set (on : Nat → Int) (c : Nat) (v : Int) : (onR on).set c (.int .i64 (v - 1)) = onR (updI on c v) := by
  have := map_range_set 32 (fun k => on k - 1) c (v - 1)
  unfold onR
  rw [this]
  apply List.map_congr_left
  intro k _
  unfold updI
  split <;> rfl
def wkC (n : Nat) (vq vr va : Value) (on : Nat → Int) : List Value := .int .i64 (n : Int) :: vq :: vr :: va :: onR on
theorem wkC_len (n : Nat) (vq vr va : Value) (on : Nat → Int) : (wkC n vq vr va on).length = 36 := by simp [wkC, onR]
theorem wkC_on (n : Nat) (vq vr va : Value) (on : Nat → Int) (c : Nat) (h : c < 32) : (wkC n vq vr va on)[4 + c]? = some (.int .i64 (on c - 1)) := by
  rw [Nat.add_comm]; exact onR_get on c h
theorem wkC_setOn (n : Nat) (vq vr va : Value) (on : Nat → Int) (c : Nat) (v : Int) : (wkC n vq vr va on).set (4 + c) (.int .i64 (v - 1)) = wkC n vq vr va (updI on c v) := by
  rw [Nat.add_comm]
  show _ :: _ :: _ :: _ :: (onR on).set c _ = _
  rw [onR_set]; rfl
abbrev rk (n : Nat) (vq vr va : Value) (on : Nat → Int) : Value := .agg (wkC n vq vr va on).toArray
theorem sizeW27 : (Try.prog.info? 57).map (·.size) = some 36 := by kernel_rfl
theorem wkC_one {n : Nat} {vq vr va : Value} {on : Nat → Int} (hq : vq.oneCell' = true) (hr : vr.oneCell' = true) (ha : va.oneCell' = true) : ∀ c ∈ wkC n vq vr va on, c.oneCell' = true := by
  intro c hc
  simp only [wkC, List.mem_cons] at hc
  rcases hc with rfl | rfl | rfl | rfl | hc
  · rfl
  · exact hq
  · exact hr
  · exact ha
  · obtain ⟨i, _, rfl⟩ := List.mem_map.1 hc; rfl
theorem slcs_oneCell {sz : Nat} {W : World} {v : Value} {els : List (List Value)} (h : SlcS sz W v els) : v.oneCell' = true := by obtain ⟨_, _, rfl, _⟩ := h; rfl
/-- The document's works in memory, none of it in Z. -/
structure RW (Z : Nat → Prop) (W : World) (vq vr va : Value) (s : WS) : Prop where
  pd : PD Z W vq vr s.Q s.Rn
  al : SlcS 2 W va (allE s.sh s.pr)
  za : InZ Z W va
section
variable {Z Z' S : Nat → Prop} {W W' : World} {vq vr va : Value} {s : WS}
theorem RW.kept (h : RW Z W vq vr va s) (hk : Keeps W W') : RW Z W' vq vr va s := ⟨h.pd.kept hk, SlcS.below h.al hk, h.za.size hk.size⟩
theorem RW.chg (h : RW Z W vq vr va s) (hc : Chg S W W') (hS : ∀ k, S k → Z k) : RW Z W' vq vr va s :=
  ⟨h.pd.chg hc hS, SlcS.chg h.al hc fun b hb hs => (h.za b hb).1 (hS b hs), h.za.size hc.size⟩
theorem InZ.more {u : Value} (h : InZ Z W u) (hz : ∀ b, Z' b → Z b ∨ W.heap.size ≤ b) : InZ Z' W u := fun b hb => ⟨fun hz' => (hz b hz').elim (h b hb).1 (fun hl => by have := (h b hb).2; omega), (h b hb).2⟩
theorem RW.more (h : RW Z W vq vr va s) (hz : ∀ b, Z' b → Z b ∨ W.heap.size ≤ b) : RW Z' W vq vr va s := ⟨h.pd.more hz, h.al, h.za.more hz⟩
theorem RW.unbox {B R : Nat} (h : RW (ZB Z B R) W vq vr va s) : RW Z W vq vr va s := h.more fun _ hb => .inl (.inl hb)
theorem RW.cellB {B R : Nat} (h : RW (ZB Z B R) W vq vr va s) (k : Nat) (u : Value) : RW (ZB Z B R) (W.setCell ⟨B, k, none⟩ u) vq vr va s := h.chg (S := (· = B)) (Chg.setCell _ _ rfl) fun _ hk => .inr (.inl hk)
theorem RW.rowR {B R : Nat} (h : RW (ZB Z B R) W vq vr va s) (cs : Array Value) : RW (ZB Z B R) (W.setRow R cs) vq vr va s := h.chg (S := (· = R)) (Chg.setRow _ rfl) fun _ hk => .inr (.inr hk)
end
/-- Behind the box of the receiver and the result's block. -/
structure Bx27 (w : World) (B R : Nat) (cs : List Value) (W : World) : Prop where
  b : Blk W B 57 cs
  r : ∃ old, Blk W R 57 old ∧ old.length = 36
  k : Keeps w W
  newB : w.heap.size ≤ B
  newR : w.heap.size ≤ R
  ne : B ≠ R
  len : cs.length = 36
section
variable {w W W' : World} {B R : Nat} {cs cs2 : List Value} {vq vr va : Value} {s : WS} {Z : Nat → Prop}
theorem Bx27.kept (h : Bx27 w B R cs W) (hk : Keeps W W') : Bx27 w B R cs W' := by
  obtain ⟨old, h1, h2⟩ := h.r
  exact ⟨h.b.keeps hk, ⟨old, h1.keeps hk, h2⟩, Keeps.trans h.k hk, h.newB, h.newR, h.ne, h.len⟩
theorem Bx27.fin (h : Bx27 w B R cs W) : Blk (W.setRow R cs2.toArray) R 57 cs2 ∧ Keeps w (W.setRow R cs2.toArray) := by
  obtain ⟨old, h1, h2⟩ := h.r
  exact ⟨h1.setRow _, Chg.keeps (S := fun k => k = R) (Chg.setRow _ rfl) h.k (fun k hk => by have := h.newR; omega)⟩
theorem Bx27.set (h : Bx27 w B R cs W) (j : Nat) (u : Value) : Bx27 w B R (cs.set j u) (W.setCell ⟨B, j, none⟩ u) := by
  obtain ⟨old, h1, h2⟩ := h.r
  exact ⟨h.b.set j u, ⟨old, h1.other h.ne.symm j u, h2⟩, Chg.keeps (S := fun k => k = B) (Chg.setCell _ _ rfl) h.k (fun k hk => by have := h.newB; omega), h.newB, h.newR, h.ne, by rw [List.length_set]; exact h.len⟩
theorem Bx27.rw (h : Bx27 w B R cs W) (hp : RW Z w vq vr va s) : RW (ZB Z B R) W vq vr va s :=
  (hp.more (Z' := ZB Z B R) fun b hb => by
    rcases hb with hb | rfl | rfl
    · exact .inl hb
    · exact .inr h.newB
    · exact .inr h.newR).kept h.k
theorem Bx27.low (h : Bx27 w B R cs W) (hZ : ∀ b, Z b → b < w.heap.size) : ∀ b, ZB Z B R b → b < W.heap.size := by
  rintro b (hb | rfl | rfl)
  · have := hZ b hb; have := h.k.size; omega
  · exact h.b.lt
  · obtain ⟨_, h1, _⟩ := h.r; exact h1.lt
end
theorem loadW27 {ops : Array Oper} {rest : List Oper} {o : Oper} {a : Act} {w : World} {Q : Exit → Act → World → Prop} {g : Nat} {cs : List Value} (hb : Blk w g 57 cs) (hl : cs.length = 36) (hgd : o.guard = none) (x : Operand) (ho : o.op = .load 57 x)
    (hx : a.eval x = .pointer (some ⟨g, 0, none⟩)) (h : wpList Try.prog ops Q rest (a.put o.dst (.agg cs.toArray)) w) : wpList Try.prog ops Q (o :: rest) a w :=
  loadRow hb hgd _ x ho hx _ Try.underlying57 rfl 36 sizeW27 hl h
theorem storeW27 {ops : Array Oper} {rest : List Oper} {o : Oper} {a : Act} {w : World} {Q : Exit → Act → World → Prop} {g : Nat} {cs : List Value} (hb : ∃ old, Blk w g 57 old ∧ old.length = 36) (hl : cs.length = 36) (h1 : ∀ c ∈ cs, c.oneCell' = true) (hgd : o.guard = none) (x y : Operand) (ho : o.op = .store 57 x y) (hd : o.dst = none)
    (hx : a.eval x = .pointer (some ⟨g, 0, none⟩)) (hy : a.eval y = .agg cs.toArray) (h : wpList Try.prog ops Q rest a (w.setRow g cs.toArray)) : wpList Try.prog ops Q (o :: rest) a w := by
  obtain ⟨old, hb, ho2⟩ := hb
  exact storeRow hb cs hgd _ x y ho hd hx hy 36 sizeW27 hl ho2 h1 h
set_option maxHeartbeats 400000 in
theorem ris27_any (id : Int) (w : World) : Calls Try.prog 54 #[.int .i64 id] w fun e w' => e = .returned (.bool (decide (inId id))) ∧ w = w' := by
  by_cases h0 : 0 ≤ id
  · by_cases h1 : id < 256
    · have e : decide (inId id) = true := decide_eq_true ⟨h0, h1⟩
      rw [e]
      go_enter Try.func54, Try.ntmps54
      go_wp2
      go_ret
      exact ⟨rfl, rfl⟩
    · have e : decide (inId id) = false := decide_eq_false (fun h => h1 h.2)
      rw [e]
      go_enter Try.func54, Try.ntmps54
      go_wp2
      go_ret
      exact ⟨rfl, rfl⟩
  · have e : decide (inId id) = false := decide_eq_false (fun h => h0 h.1)
    rw [e]
    go_enter Try.func54, Try.ntmps54
    go_wp2
    go_ret
    exact ⟨rfl, rfl⟩
/-- How many contexts are of a CPU, by the document. -/
def busyR (on : Nat → Int) (c : Int) : Nat := if c < 0 then 0 else cntTo on (c + 1) 32
section
variable {w W W' : World} {n : Nat} {vq vr va : Value} {on : Nat → Int}
set_option maxRecDepth 100000 in
set_option maxHeartbeats 1000000 in
theorem rbusy_any (hon : ∀ c, c < 32 → 0 ≤ on c ∧ on c ≤ 64) (c : Int) : Calls Try.prog 26 #[rk n vq vr va on, .int .i64 c] w fun e w' => e = .returned (.int .i64 (busyR on c : Nat)) ∧ Keeps w w' := by
  have hle := cntTo_le on (c + 1)
  have hsu : ∀ i, cntTo on (c + 1) (i + 1) = cntTo on (c + 1) i + if on i = c + 1 then 1 else 0 := fun i => rfl
  replace hsu := Lib.hid hsu
  replace hle := Lib.hid hle
  replace hon := Lib.hid hon
  obtain ⟨r, hr⟩ : ∃ r, r = busyR on c := ⟨_, rfl⟩
  rw [← hr]
  replace hr := Lib.hid hr
  generalize hcs : wkC n vq vr va on = cs
  go_enter Try.func26, Try.ntmps26
  go_upto_region 2 with (fail)
  refine wp_gen (fun W => Blk W w.heap.size 57 (wkC n vq vr va on) ∧ Keeps w W) ⟨by rw [hcs]; exact Blk.new _ _ _, Keeps.alloc _ _⟩ ?_
  rintro W ⟨hB, hK⟩
  generalize w.heap.size = B at hB ⊢
  have hcell := fun j hj => hB.cellK (wkC_on n vq vr va on j hj)
  replace hcell := Lib.hid hcell
  replace hK := Lib.hid hK
  clear hB hcs
  go_wp2_with fail
  by_cases hc : c < 0
  · have hc1 : ¬ 0 ≤ c := by omega
    go_loopw [5, 6] (fun t i wr => ∃ j : Nat, j ≤ 32 ∧ i = .int .i64 j ∧ t = .int .i64 0 ∧ W = wr) (fun _ i _ => 32 - (intOf i).toNat)
    case atStart => exact ⟨0, by omega, rfl, rfl, rfl⟩
    case round =>
      obtain ⟨j, hj, rfl, rfl, rfl⟩ := hrel
      have hjl : j < 32 ∨ j = 32 := by omega
      rcases hjl with hlt | rfl
      · have hltI : (j : Int) < 32 := by omega
        go_wp2_with fail
        go_roundw
        case rel => exact ⟨j + 1, by omega, by go_num, rfl, trivial⟩
        case measure => (simp [intOf]; try omega)
      · go_wp2_with fail
        go_ret
        exact ⟨by rw [hr.out]; unfold busyR; rw [if_pos (by omega)]; rfl, hK.out⟩
  · have hc1 : 0 ≤ c := by omega
    go_loopw [5, 6] (fun t i wr => ∃ j : Nat, j ≤ 32 ∧ i = .int .i64 j ∧ t = .int .i64 (cntTo on (c + 1) j : Nat) ∧ W = wr) (fun _ i _ => 32 - (intOf i).toNat)
    case atStart => exact ⟨0, by omega, rfl, rfl, rfl⟩
    case round =>
      obtain ⟨j, hj, rfl, rfl, rfl⟩ := hrel
      have hj0 : (0 : Int) ≤ (j : Int) := by omega
      have hjl : j < 32 ∨ j = 32 := by omega
      rcases hjl with hlt | rfl
      · have hltI : (j : Int) < 32 := by omega
        have hx := hcell.out j hlt
        have hs := hsu.out j
        have hl := hle.out j
        have ho := hon.out j hlt
        by_cases he : on j = c + 1
        · rw [if_pos he] at hs
          have hq : (on j - 1 == c) = true := by
            have : on j - 1 = c := by omega
            simpa using this
          replace hs := Lib.hid hs
          replace he := Lib.hid he
          generalize on j - 1 = x at *
          generalize cntTo on (c + 1) j = m at *
          go_wp2_with fail
          go_roundw
          case rel => exact ⟨j + 1, by omega, by go_num, by rw [hs.out]; go_num, trivial⟩
          case measure => (simp [intOf]; try omega)
        · rw [if_neg he] at hs
          have hq : (on j - 1 == c) = false := by
            have : ¬ on j - 1 = c := by omega
            simpa using this
          replace hs := Lib.hid hs
          replace he := Lib.hid he
          generalize on j - 1 = x at *
          generalize cntTo on (c + 1) j = m at *
          go_wp2_with fail
          go_roundw
          case rel => exact ⟨j + 1, by omega, by go_num, by rw [hs.out]; go_num, trivial⟩
          case measure => (simp [intOf]; try omega)
      · go_wp2_with fail
        go_ret
        exact ⟨by rw [hr.out]; unfold busyR; rw [if_neg (by omega)]; rfl, hK.out⟩
end
end Go.Proofs.Ytcggbfpangnllaa
