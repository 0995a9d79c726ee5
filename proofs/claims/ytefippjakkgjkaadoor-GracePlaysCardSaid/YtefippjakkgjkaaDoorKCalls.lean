/- Merged: KCallsA KCallsB KCallsC KCallsD KCallsE KCallsF. -/
import Derived.Test.YtefippjakkgjkaaDoorKRing2bC
import Derived.Deep.AppendLies
import Derived.Test.YtefippjakkgjkaaDoorIterT
/- The walks of package calls: the lists in memory; New, Add. -/
namespace Go.Proofs.YtefippjakkgjkaaDoor.K
open Go.RowKit

abbrev Cl : Type := Int × Int
theorem _root_.Go.Proofs.YtefippjakkgjkaaDoor.Chg.cell'' {S : Nat → Prop} {W W' : World} {p : Addr} (h : Chg S W W') (hlt : p.block < W.heap.size) (hn : ¬ S p.block) : W'.cell? p = W.cell? p := World.cell?_of_block (h.block p.block hlt hn)
/-- Callbacks by CPUs at p: the row rb of the rings' pointers, the rings at pp i over bb i, the last generation, what each ring holds. -/
structure ListsAt (w : World) (p rb cap n : Nat) (pp bb : Nat → Nat) (last : Int) (R : List (List Cl)) : Prop where
  hdr : Blk w p 109 [.slice (some ⟨rb, 0, none⟩) n cap, .int .i64 last]
  tab : ∃ cs, Blk w rb 110 cs ∧ ∀ i, i < n → cs[i]? = some (.pointer (some ⟨pp i, 0, none⟩))
  hn : n ≤ cap
  hcap : cap ≤ maxLen
  len : R.length = n
  ring : ∀ i, i < n → ∃ hd, RingAt w (pp i) (bb i) 64 hd (R.getD i [])
  ne : p ≠ rb
  far : ∀ i, i < n → pp i ≠ p ∧ bb i ≠ p ∧ pp i ≠ rb ∧ bb i ≠ rb
  apart : ∀ i j, i < n → j < n → i ≠ j → pp i ≠ pp j ∧ pp i ≠ bb j ∧ bb i ≠ bb j
  n64 : n ≤ 64
/-- The blocks of lists. -/
def Foot (p rb n : Nat) (pp bb : Nat → Nat) (k : Nat) : Prop := k = p ∨ k = rb ∨ ∃ i, i < n ∧ (k = pp i ∨ k = bb i)
section
variable {w w' : World} {p rb cap n : Nat} {pp bb : Nat → Nat} {last : Int} {R : List (List Cl)}
theorem ListsAt.chg {S : Nat → Prop} (h : ListsAt w p rb cap n pp bb last R) (hc : Chg S w w') (hS : ∀ k, Foot p rb n pp bb k → ¬ S k) : ListsAt w' p rb cap n pp bb last R := by
  refine ⟨h.hdr.chg hc (hS p (.inl rfl)), ?_, h.hn, h.hcap, h.len, fun i hi => ?_, h.ne, h.far, h.apart, h.n64⟩
  · obtain ⟨cs, h1, h2⟩ := h.tab
    exact ⟨cs, h1.chg hc (hS rb (.inr (.inl rfl))), h2⟩
  · obtain ⟨hd, hR⟩ := h.ring i hi
    exact ⟨hd, hR.chg hc (hS _ (.inr (.inr ⟨i, hi, .inl rfl⟩))) (hS _ (.inr (.inr ⟨i, hi, .inr rfl⟩)))⟩
theorem ListsAt.keeps (h : ListsAt w p rb cap n pp bb last R) (hk : Keeps w w') : ListsAt w' p rb cap n pp bb last R := by
  refine ⟨h.hdr.keeps hk, ?_, h.hn, h.hcap, h.len, fun i hi => ?_, h.ne, h.far, h.apart, h.n64⟩
  · obtain ⟨cs, h1, h2⟩ := h.tab
    exact ⟨cs, h1.keeps hk, h2⟩
  · obtain ⟨hd, hR⟩ := h.ring i hi
    exact ⟨hd, hR.keeps hk⟩
theorem ListsAt.foot_lt (h : ListsAt w p rb cap n pp bb last R) : ∀ k, Foot p rb n pp bb k → k < w.heap.size := by
  rintro k (rfl | rfl | ⟨i, hi, rfl | rfl⟩)
  · exact h.hdr.lt
  · obtain ⟨cs, h1, _⟩ := h.tab; exact h1.lt
  · obtain ⟨hd, hR⟩ := h.ring i hi; exact hR.lt.1
  · obtain ⟨hd, hR⟩ := h.ring i hi; exact hR.lt.2
/-- One ring has turned. -/
theorem ListsAt.set (h : ListsAt w p rb cap n pp bb last R) {i hd : Nat} (hi : i < n) {x : List Cl} (hR : RingAt w' (pp i) (bb i) 64 hd x) (hc : Chg (fun k => k = pp i ∨ k = bb i) w w') : ListsAt w' p rb cap n pp bb last (R.set i x) := by
  have hf := h.far i hi
  refine ⟨h.hdr.chg hc (by omega), ?_, h.hn, h.hcap, by rw [List.length_set]; exact h.len, fun j hj => ?_, h.ne, h.far, h.apart, h.n64⟩
  · obtain ⟨cs, h1, h2⟩ := h.tab
    exact ⟨cs, h1.chg hc (by omega), h2⟩
  · by_cases e : i = j
    · subst e
      refine ⟨hd, ?_⟩
      rw [show (R.set i x).getD i [] = x by simp [List.getD, h.len, hi]]
      exact hR
    · obtain ⟨hd', hR'⟩ := h.ring j hj
      refine ⟨hd', ?_⟩
      rw [show (R.set i x).getD j [] = R.getD j [] by simp [List.getD, e]]
      have h1 := h.apart i j hi hj e
      have h2 := h.apart j i hj hi (Ne.symm e)
      exact hR'.chg hc (by omega) (by omega)
theorem _root_.Go.Proofs.YtefippjakkgjkaaDoor.Chg.toFoot {i : Nat} (hi : i < n) (hc : Chg (fun k => k = pp i ∨ k = bb i) w w') : Chg (Foot p rb n pp bb) w w' := hc.mono fun _ _ hs => .inr (.inr ⟨i, hi, hs⟩)
theorem ListsAt.c0 (h : ListsAt w p rb cap n pp bb last R) : w.cell? ⟨p, 0, none⟩ = some (.slice (some ⟨rb, 0, none⟩) n cap) := h.hdr.cell 0 (by simp)
theorem ListsAt.c1 (h : ListsAt w p rb cap n pp bb last R) : w.cell? ⟨p, 1, none⟩ = some (.int .i64 last) := h.hdr.cell 1 (by simp)
theorem ListsAt.ptr (h : ListsAt w p rb cap n pp bb last R) (i : Nat) (hi : i < n) : w.cell? ⟨rb, i, none⟩ = some (.pointer (some ⟨pp i, 0, none⟩)) := by
  obtain ⟨cs, h1, h2⟩ := h.tab
  exact h1.cellK (h2 i hi)
theorem ListsAt.setLast (h : ListsAt w p rb cap n pp bb last R) (x : Int) : ListsAt (w.setCell ⟨p, 1, none⟩ (.int .i64 x)) p rb cap n pp bb x R := by
  have hC : Chg (· = p) w (w.setCell ⟨p, 1, none⟩ (.int .i64 x)) := Chg.setCell _ _ rfl
  refine ⟨h.hdr.set 1 _, ?_, h.hn, h.hcap, h.len, fun i hi => ?_, h.ne, h.far, h.apart, h.n64⟩
  · obtain ⟨cs, h1, h2⟩ := h.tab
    exact ⟨cs, h1.chg hC h.ne.symm, h2⟩
  · obtain ⟨hd, hR⟩ := h.ring i hi
    have hf := h.far i hi
    exact ⟨hd, hR.chg hC hf.1 hf.2.1⟩
end
theorem infoP : (Tryd.prog.info? 110).map (fun i => (i.zero, i.size, i.bytes)) = some (some (.pointer none), 1, 8) := by kernel_rfl
set_option maxHeartbeats 400000 in
theorem lnew_no (n : Int) (w : World) (h : n < 1 ∨ 64 < n) : Calls Tryd.prog 38 #[.int .i64 n] w fun e w' => e = .returned (.tuple #[.pointer none, .int .i64 2]) ∧ w = w' := by
  have hcase : n < 1 ∨ (¬ n < 1 ∧ 64 < n) := by omega
  clear h
  rcases hcase with h1 | ⟨h1, h2⟩
  all_goals
    go_enter Tryd.func38, Tryd.ntmps38
    go_wp2
    go_ret2
    exact ⟨rfl, rfl⟩
/-- The lists while New makes them: k rings. -/
structure MakeAt (w0 w : World) (p k : Nat) (pp bb : Nat → Nat) (v : Value) : Prop where
  hdr : Blk w p 109 [v, .int .i64 0]
  row : w.ownsRow w0.heap.size 110 1 v k ((List.range k).map fun i => .pointer (some ⟨pp i, 0, none⟩))
  rne : ∀ r, v.ownBlock = some r → r ≠ p ∧ ∀ i, i < k → r ≠ pp i ∧ r ≠ bb i
  ring : ∀ i, i < k → RingAt w (pp i) (bb i) 64 0 []
  far : ∀ i, i < k → pp i ≠ p ∧ bb i ≠ p ∧ w0.heap.size ≤ pp i ∧ w0.heap.size ≤ bb i
  apart : ∀ i j, i < k → j < k → i ≠ j → pp i ≠ pp j ∧ pp i ≠ bb j ∧ bb i ≠ bb j
  hp : w0.heap.size ≤ p
  keeps : Keeps w0 w
/-- 'out = append(out, y)', and where the row lies. -/
theorem app1L {P : Program} {w0 : World} {ops : Array Oper} {rest : List Oper} {o : Oper} {a : Act} {Q : Exit → Act → World → Prop} (hgd : o.guard = none) (s x : Operand) (T e : TypeId) (z0 : Value) (bytes : Nat)
    (ho : o.op = .call { callee := .builtin .append, args := #[s, x], argTypes := #[T, T] }) (ht : P.underlying T = some (.slice e)) (hinfo : (P.info? e).map (fun i => (i.zero, i.size, i.bytes)) = some (some z0, 1, bytes)) (hz : z0.cells.size = 1)
    (base : Nat) (v : Value) (n : Nat) (xs : List Value) (hs : a.eval s = v) (hown : w0.ownsRow base e 1 v n xs) (y : Value) (hx : a.eval x = .slice (some ⟨w0.heap.size, 0, none⟩) 1 1) (hy : y.oneCell' = true)
    (h63 : n + 1 ≤ maxLen) (hbytes : (n + 1) * bytes ≤ 140737488355328) (hbase : base ≤ w0.heap.size)
    (h : ∀ g cap w1, w1.ownsRow base e 1 (.slice (some ⟨g, 0, none⟩) (n + 1) cap) (n + 1) (xs ++ [y]) → (w0.alloc (.cells #[y] e)).grownBy w1 v.ownBlock → (v.ownBlock = some g ∨ g = w0.heap.size + 1) → wpList P ops Q rest (a.put o.dst (.slice (some ⟨g, 0, none⟩) (n + 1) cap)) w1) :
    wpList P ops Q (o :: rest) a (w0.alloc (.cells #[y] e)) := by
  obtain ⟨i0, hi, hz0, hz1, hz2⟩ := info_parts hinfo
  exact wpList_append_lies _ hgd s x T ho base e i0 z0 1 bytes ht hi hz0 hz1 hz2 hz (by decide) v n xs hs (hown.alloc _) ⟨w0.heap.size, 0, none⟩ 1 1 [y] hx rfl (cell_one_new _ _ _) (by simpa using hy) (by decide) h63 hbytes (by simp; omega) (w0.heap.size + 1) (by simp)
    fun g cap w1 h1 h2 h3 _ => h g cap w1 h1 h2 h3
theorem MakeAt.step {w0 wr w2 w3 : World} {p k g cap S : Nat} {pp bb : Nat → Nat} {v : Value} (h : MakeAt w0 wr p k pp bb v) (hS : S = wr.heap.size) (hR : RingAt w2 (S + 1) S 64 0 []) (hK : Keeps wr w2)
    (hown : w3.ownsRow w0.heap.size 110 1 (.slice (some ⟨g, 0, none⟩) (k + 1) cap) (k + 1) ((List.range k).map (fun i => .pointer (some ⟨pp i, 0, none⟩)) ++ [.pointer (some ⟨S + 1, 0, none⟩)]))
    (hgrow : (w2.alloc (.cells #[.pointer (some ⟨S + 1, 0, none⟩)] 110)).grownBy w3 v.ownBlock) (hat : v.ownBlock = some g ∨ g = w2.heap.size + 1) :
    MakeAt w0 (w3.setCell ⟨p, 0, none⟩ (.slice (some ⟨g, 0, none⟩) (k + 1) cap)) p (k + 1) (fun i => if i = k then S + 1 else pp i) (fun i => if i = k then S else bb i) (.slice (some ⟨g, 0, none⟩) (k + 1) cap) := by
  have hRl := hR.lt
  have hpl := h.hdr.lt
  have hsz := h.keeps.size
  have hsz2 := hK.size
  have hrow := fun r hr => row_own h.row r hr
  have hC : Chg (fun x => v.ownBlock = some x) w2 w3 := ⟨hgrow.os, hgrow.tape, hgrow.output, Nat.le_trans (by simp) hgrow.size, fun i hi hn => (hgrow.block i (by simp; omega) (fun e => hn e.symm)).trans (Below.heap_alloc _ _ _ hi)⟩
  have hC2 : Chg (fun x => v.ownBlock = some x ∨ x = p) w2 (w3.setCell ⟨p, 0, none⟩ (.slice (some ⟨g, 0, none⟩) (k + 1) cap)) := (hC.mono fun _ _ hs => .inl hs).trans (Chg.setCell _ _ (.inr rfl))
  have hg : w0.heap.size ≤ g ∧ g ≠ p ∧ g ≠ S ∧ g ≠ S + 1 ∧ ∀ i, i < k → g ≠ pp i ∧ g ≠ bb i := by
    rcases hat with hat | hat
    · have h1 := hrow g hat
      have h2 := h.rne g hat
      exact ⟨h1.1, h2.1, by omega, by omega, h2.2⟩
    · refine ⟨by omega, by omega, by omega, by omega, fun i hi => ?_⟩
      have := (h.ring i hi).lt
      omega
  refine ⟨?_, ?_, ?_, ?_, ?_, ?_, h.hp, ?_⟩
  · have := ((h.hdr.keeps hK).chg hC (fun e => (h.rne p e).1 rfl)).set 0 (.slice (some ⟨g, 0, none⟩) (k + 1) cap)
    exact this
  · have hC3 : Chg (· = p) w3 (w3.setCell ⟨p, 0, none⟩ (.slice (some ⟨g, 0, none⟩) (k + 1) cap)) := Chg.setCell _ _ rfl
    have hl : (List.range (k + 1)).map (fun i => Value.pointer (some ⟨if i = k then S + 1 else pp i, 0, none⟩)) = (List.range k).map (fun i => Value.pointer (some ⟨pp i, 0, none⟩)) ++ [.pointer (some ⟨S + 1, 0, none⟩)] := by
      rw [List.range_succ, List.map_append, List.map_singleton, if_pos rfl]
      congr 1
      apply List.map_congr_left
      intro i hi
      rw [if_neg (by have := List.mem_range.1 hi; omega)]
    rw [hl]
    refine ⟨hown.1, ?_⟩
    rcases hown.2 with ⟨e, _⟩ | ⟨g', cap', cur, e, hb, hgg, hr⟩
    · cases e
    · simp only [Value.slice.injEq, Option.some.injEq, Addr.mk.injEq, and_true] at e
      obtain ⟨rfl, _, rfl⟩ := e
      exact .inr ⟨g, cap, cur, rfl, hb, (hC3.block g ((Array.getElem?_eq_some_iff.1 hgg).1) hg.2.1).trans hgg, hr⟩
  · intro r hr
    obtain rfl : g = r := by simpa [Value.ownBlock] using hr
    refine ⟨hg.2.1, fun i hi => ?_⟩
    by_cases e : i = k
    · rw [if_pos e, if_pos e]; exact ⟨hg.2.2.2.1, hg.2.2.1⟩
    · rw [if_neg e, if_neg e]; exact hg.2.2.2.2 i (by omega)
  · intro i hi
    by_cases e : i = k
    · simp only [if_pos e]
      exact hR.chg hC2 (by rintro (h1 | h1); have := hrow _ h1; omega; omega) (by rintro (h1 | h1); have := hrow _ h1; omega; omega)
    · simp only [if_neg e]
      have hf := h.far i (by omega)
      exact ((h.ring i (by omega)).keeps hK).chg hC2 (by rintro (h1 | h1); exact ((h.rne _ h1).2 i (by omega)).1 rfl; exact hf.1 h1) (by rintro (h1 | h1); exact ((h.rne _ h1).2 i (by omega)).2 rfl; exact hf.2.1 h1)
  · intro i hi
    by_cases e : i = k
    · simp only [if_pos e]; omega
    · simp only [if_neg e]; exact h.far i (by omega)
  · intro i j hi hj hne
    by_cases e : i = k
    · have e2 : j ≠ k := by omega
      have := (h.ring j (by omega)).lt
      simp only [if_pos e, if_neg e2]; omega
    · by_cases e2 : j = k
      · have := (h.ring i (by omega)).lt
        simp only [if_neg e, if_pos e2]; omega
      · simp only [if_neg e, if_neg e2]; exact h.apart i j (by omega) (by omega) hne
  · exact Chg.keeps hC2 (Keeps.trans h.keeps hK) (fun x hx hs => by
      rcases hs with h1 | h1
      · have := hrow _ h1; omega
      · have := h.hp; omega)
/-- All are made. -/
theorem MakeAt.done {w0 w : World} {p k : Nat} {pp bb : Nat → Nat} {v : Value} (h : MakeAt w0 w p k pp bb v) (h1 : 1 ≤ k) (h2 : k ≤ 64) : ∃ rb cap, ListsAt w p rb cap k pp bb 0 (List.replicate k []) ∧ (∀ x, Foot p rb k pp bb x → w0.heap.size ≤ x) := by
  rcases h.row.2 with ⟨_, h0⟩ | ⟨g, cap, cur, hv, hb, hg, hn, hm, hc, ht⟩
  · omega
  · have hr := h.rne g (by rw [hv]; rfl)
    have hh := h.hdr
    rw [hv] at hh
    refine ⟨g, cap, ⟨hh, ⟨cur.toList, hg, fun i hi => ?_⟩, hn, hm, by simp, fun i hi => ⟨0, ?_⟩, hr.1.symm, fun i hi => ?_, h.apart, h2⟩, ?_⟩
    · have := congrArg (·[i]?) ht
      simp only [List.getElem?_take, List.getElem?_map] at this
      rw [if_pos (by omega)] at this
      rw [this]; simp [hi]
    · rw [show (List.replicate k ([] : List Cl)).getD i [] = [] by simp [List.getD, hi]]
      exact h.ring i hi
    · have hf := h.far i hi
      have hx := hr.2 i hi
      exact ⟨hf.1, hf.2.1, hx.1.symm, hx.2.symm⟩
    · rintro x (rfl | rfl | ⟨i, hi, rfl | rfl⟩)
      · exact h.hp
      · exact hb
      · exact (h.far i hi).2.2.1
      · exact (h.far i hi).2.2.2
set_option maxRecDepth 100000 in
set_option maxHeartbeats 2000000 in
theorem lnew_yes (n : Nat) (w : World) (h1 : 1 ≤ n) (h2 : n ≤ 64) :
    Calls Tryd.prog 38 #[.int .i64 n] w fun e w' => ∃ p rb cap pp bb, e = .returned (.tuple #[.pointer (some ⟨p, 0, none⟩), .int .i64 0]) ∧ ListsAt w' p rb cap n pp bb 0 (List.replicate n []) ∧ (∀ k, Foot p rb n pp bb k → w.heap.size ≤ k) ∧ Keeps w w' := by
  have hn1 : ¬ (n : Int) < 1 := by omega
  have hn2 : ¬ 64 < (n : Int) := by omega
  obtain ⟨p, hp⟩ : ∃ p, p = w.heap.size := ⟨_, rfl⟩
  go_enter Tryd.func38, Tryd.ntmps38
  go_upto_region 4 with (fail)
  have hM0 : MakeAt w (w.alloc (.cells #[.slice none 0 0, .int .i64 0] 109)) p 0 (fun _ => 0) (fun _ => 0) (.slice none 0 0) :=
    ⟨Blk.at hp rfl, World.ownsRow_nil _ _ _ _, fun r hr => by simp [Value.ownBlock] at hr, fun i hi => absurd hi (Nat.not_lt_zero i), fun i hi => absurd hi (Nat.not_lt_zero i), fun i j hi => absurd hi (Nat.not_lt_zero i), by omega, Keeps.alloc _ _⟩
  rw [← hp]
  replace hM0 := Lib.hid hM0
  replace hp := Lib.hid hp
  go_wp2_with fail
  go_loopw [16] (fun i wr => ∃ (k : Nat) (pp bb : Nat → Nat) (v : Value), k ≤ n ∧ i = .int .i64 k ∧ MakeAt w wr p k pp bb v) (fun i _ => n - (intOf i).toNat)
  case atStart => exact ⟨0, _, _, _, Nat.zero_le _, rfl, hM0.out⟩
  case round =>
    clear hM0
    obtain ⟨k, pp, bb, v, hk, rfl, hM⟩ := hrel
    have hkn : k < n ∨ k = n := by omega
    rcases hkn with hlt | rfl
    · have hltI := Int.ofNat_lt.2 hlt
      have hnew := new_yes 64 wr (by decide) (by decide)
      rw [show ((64 : Nat) : Int) = 64 from rfl] at hnew
      replace hnew := Lib.hid hnew
      replace hM := Lib.hid hM
      go_wp2_with fail
      refine hnew.out.mono ?_
      rintro e w2 ⟨rfl, hR, hK2⟩
      obtain ⟨S, hS⟩ : ∃ S, S = wr.heap.size := ⟨_, rfl⟩
      have hM1 := hM.out
      have hrow2 : w2.ownsRow w.heap.size 110 1 v k ((List.range k).map fun i => .pointer (some ⟨pp i, 0, none⟩)) := by
        refine ⟨hM1.row.1, ?_⟩
        rcases hM1.row.2 with h0 | ⟨g, cap, cur, hv, hb, hg, hr⟩
        · exact .inl h0
        · exact .inr ⟨g, cap, cur, hv, hb, (hK2.block g ((Array.getElem?_eq_some_iff.1 hg).1)).trans hg, hr⟩
      have hP2 := hM1.hdr.keeps hK2
      have d0 := hP2.cell 0 (by simp)
      have f0 := hP2.frozen 0
      simp only [List.getElem_cons_zero] at d0
      have hsz := hM1.keeps.size
      have hRl := hR.lt
      rw [← hS] at hR ⊢
      have hstep := fun (g cap : Nat) (w3 : World) => MakeAt.step (w3 := w3) (g := g) (cap := cap) hM1 hS hR hK2
      have hw2 : w.heap.size ≤ w2.heap.size := Nat.le_trans hsz hK2.size
      have hhdr := fun (w3 : World) (hgrow : (w2.alloc (.cells #[.pointer (some ⟨S + 1, 0, none⟩)] 110)).grownBy w3 v.ownBlock) => (hP2.alloc _).kept hgrow (fun e => (hM1.rne p e.symm).1 rfl)
      replace hstep := Lib.hid hstep
      replace hhdr := Lib.hid hhdr
      replace hrow2 := Lib.hid hrow2
      replace hS := Lib.hid hS
      clear hM hM1 hR hK2 hP2 hnew hRl
      go_wp2_with (at_builtin; refine app1L rfl _ _ 107 110 (.pointer none) 8 rfl Tryd.underlying107 infoP rfl w.heap.size _ _ _ rfl hrow2.out _ rfl rfl (by unfold maxLen; omega) (by omega) hw2 ?_)
      intro g cap w3 hown hgrow hat
      have hM4 := hstep.out g cap w3 hown hgrow hat
      have hP3 := hhdr.out w3 hgrow
      have d0 := hP3.cell 0 (by simp)
      have f0 := hP3.frozen 0
      simp only [List.getElem_cons_zero] at d0
      replace hM4 := Lib.hid hM4
      clear hown hgrow hat hP3 hstep hhdr hrow2
      go_wp2_with fail
      go_roundw
      case rel => exact ⟨k + 1, _, _, _, by omega, by go_num, hM4.out⟩
      case measure => (simp [intOf]; try omega)
    · obtain ⟨rb, cap, hL, hF⟩ := hM.done h1 h2
      have hK := hM.keeps
      replace hL := Lib.hid hL
      replace hF := Lib.hid hF
      replace hK := Lib.hid hK
      clear hM
      go_wp2_with fail
      go_ret2
      exact ⟨p, rb, cap, pp, bb, rfl, hL.out, hF.out, hK.out⟩
/-! ### Add -/
def addR (xs : List Cl) (ids : List Int) : List Cl := xs ++ (ids.take (64 - xs.length)).map fun i => (i, 0)
set_option maxHeartbeats 400000 in
theorem ladd_nil (c : Int) (v : Value) (w : World) : Calls Tryd.prog 39 #[.pointer none, .int .i64 c, v] w fun e w' => e = .returned (.int .i64 6) ∧ w = w' := by
  go_enter Tryd.func39, Tryd.ntmps39
  go_wp2
  go_ret
  exact ⟨rfl, rfl⟩
section
variable {w : World} {p rb cap n : Nat} {pp bb : Nat → Nat} {last : Int} {R : List (List Cl)}
set_option maxHeartbeats 1000000 in
theorem ladd_no (h : ListsAt w p rb cap n pp bb last R) (c : Int) (hc : c < 0 ∨ (n : Int) ≤ c) (v : Value) : Calls Tryd.prog 39 #[.pointer (some ⟨p, 0, none⟩), .int .i64 c, v] w fun e w' => e = .returned (.int .i64 2) ∧ w = w' := by
  have c0 := h.c0
  have hcase : c < 0 ∨ (¬ c < 0 ∧ (n : Int) ≤ c) := by omega
  clear h hc
  rcases hcase with h1 | ⟨h1, h2⟩
  all_goals
    go_enter Tryd.func39, Tryd.ntmps39
    go_wp2
    go_ret
    exact ⟨rfl, rfl⟩
set_option maxRecDepth 100000 in
set_option maxHeartbeats 2000000 in
theorem ladd_any (h : ListsAt w p rb cap n pp bb last R) (c : Nat) (hc : c < n) (v : Value) (ids : List Int) (hv : Ints w v ids) (hsep : ∀ k, v.ownBlock = some k → 0 < ids.length → ¬ Foot p rb n pp bb k) :
    Calls Tryd.prog 39 #[.pointer (some ⟨p, 0, none⟩), .int .i64 c, v] w fun e w' => e = .returned (.int .i64 (if ids.length ≤ 64 - (R.getD c []).length then 0 else 3)) ∧
      ListsAt w' p rb cap n pp bb last (R.set c (addR (R.getD c []) ids)) ∧ Chg (Foot p rb n pp bb) w w' := by
  obtain ⟨q, vcap, rfl, hl, hvc, hcell⟩ := hv.open
  have hz0 : (0 : Int) ≤ ids.length := by omega
  have hcI : (c : Int) < (n : Int) := by omega
  have hc0 : ¬ (c : Int) < 0 := by omega
  have hc00 : (0 : Int) ≤ (c : Int) := by omega
  have hnc := h.hn
  have hncap := h.hcap
  unfold maxLen at hncap
  have c0 := h.c0
  have h64 : (R.getD c []).length ≤ 64 := by obtain ⟨hd, hR⟩ := h.ring c hc; exact hR.len
  generalize hX : R.getD c [] = X at *
  have hset : R.set c X = R := by
    rw [← hX]
    apply List.ext_getElem
    · simp
    · intro i h1 h2
      rw [List.getElem_set]
      split
      · rename_i e; subst e; simp [List.getD, h2]
      · rfl
  replace hX := Lib.hid hX
  replace hset := Lib.hid hset
  replace hcell := Lib.hid hcell
  replace hsep := Lib.hid hsep
  replace h := Lib.hid h
  go_enter Tryd.func39, Tryd.ntmps39
  go_wp2_with fail
  go_loopw [26] (fun i wr => ∃ k : Nat, k ≤ ids.length ∧ i = .int .i64 k ∧ X.length + k ≤ 64 ∧ ListsAt wr p rb cap n pp bb last (R.set c (X ++ (ids.take k).map fun i => (i, 0))) ∧ Chg (Foot p rb n pp bb) w wr) (fun i _ => ids.length - (intOf i).toNat)
  case atStart => exact ⟨0, Nat.zero_le _, rfl, by omega, by rw [List.take_zero, List.map_nil, List.append_nil, hset.out]; exact h.out, Chg.refl _ _⟩
  case round =>
    clear h c0
    obtain ⟨k, hk, rfl, hk64, hL, hC⟩ := hrel
    have hkl : k < ids.length ∨ k = ids.length := by omega
    rcases hkl with hlt | rfl
    · obtain ⟨b, off, rfl, hcx⟩ := hcell.out k hlt
      have hcx' := (hC.cell'' (p := ⟨b, off + k, none⟩) (cell_lt hcx) (hsep.out b rfl (by omega))).trans hcx
      have hRl : R.length = n := by rw [← hL.len, List.length_set]
      have hgd : (R.set c (X ++ (ids.take k).map fun i => (i, 0))).getD c [] = X ++ (ids.take k).map fun i => (i, 0) := by simp [List.getD, hRl, hc]
      have hYl : (X ++ (ids.take k).map (fun i => ((i, 0) : Cl))).length = X.length + k := by simp; omega
      obtain ⟨hd, hR⟩ := hL.ring c hc
      rw [hgd] at hR
      have c0 := hL.c0
      have cp := hL.ptr c hc
      have hltI := Int.ofNat_lt.2 hlt
      have htk : ids.take (k + 1) = ids.take k ++ [ids[k]] := List.take_succ_eq_append_getElem hlt
      generalize ids[k] = x at *
      by_cases hfull : X.length + k = 64
      · have hpush := push0_any hR (by rw [hYl]; exact hfull) (x, 0) wr.heap.size rfl rfl
        have hfin := fun (W : World) (hd : Nat) (hR' : RingAt W (pp c) (bb c) 64 hd (X ++ (ids.take k).map fun i => (i, 0))) (hC' : Chg (fun k => k = pp c ∨ k = bb c) wr W) => (hL.set hc hR' hC')
        simp only [List.set_set] at hfin
        have hno : ¬ ids.length ≤ 64 - X.length := by omega
        have hadd : addR X ids = X ++ (ids.take k).map fun i => (i, 0) := by unfold addR; rw [show 64 - X.length = k by omega]
        replace hadd := Lib.hid hadd
        replace hpush := Lib.hid hpush
        replace hfin := Lib.hid hfin
        replace hC := Lib.hid hC
        replace hno := Lib.hid hno
        replace htk := Lib.hid htk
        clear hL hgd hYl hR hRl hcx hsep hcell
        go_wp2_with fail
        refine hpush.out.mono ?_
        rintro e w2 ⟨rfl, hR2, hC2⟩
        have hL2 := hfin.out w2 _ hR2 hC2
        replace hL2 := Lib.hid hL2
        have hC3 := Lib.hid (hC.out.trans (Chg.toFoot hc hC2))
        clear hR2 hC2 hfin hpush hC
        go_wp2_with fail
        go_ret
        exact ⟨rfl, by rw [hadd.out]; exact hL2.out, hC3.out⟩
      · have hpush := push1_any hR (by rw [hYl]; omega) (x, 0) wr.heap.size rfl rfl
        have hfin := fun (W : World) (hd : Nat) (hR' : RingAt W (pp c) (bb c) 64 hd ((X ++ (ids.take k).map fun i => (i, 0)) ++ [(x, 0)])) (hC' : Chg (fun k => k = pp c ∨ k = bb c) wr W) => (hL.set hc hR' hC')
        simp only [List.set_set] at hfin
        rw [show (X ++ (ids.take k).map fun i => ((i, 0) : Cl)) ++ [(x, 0)] = X ++ (ids.take (k + 1)).map fun i => (i, 0) by rw [htk, List.map_append, List.append_assoc]; rfl] at hfin hpush
        replace hpush := Lib.hid hpush
        replace hfin := Lib.hid hfin
        replace hC := Lib.hid hC
        replace htk := Lib.hid htk
        clear hL hgd hYl hR hRl hcx
        go_wp2_with fail
        refine hpush.out.mono ?_
        rintro e w2 ⟨rfl, hR2, hC2⟩
        have hL2 := hfin.out w2 _ hR2 hC2
        replace hL2 := Lib.hid hL2
        have hC3 := Lib.hid (hC.out.trans (Chg.toFoot hc hC2))
        clear hR2 hC2 hfin hpush hC
        go_wp2_with fail
        go_roundw
        case rel => exact ⟨k + 1, by omega, by go_num, by omega, hL2.out, hC3.out⟩
        case measure => (simp [intOf]; try omega)
    · have hyes : ids.length ≤ 64 - X.length := by omega
      have hadd : addR X ids = X ++ (ids.take ids.length).map fun i => (i, 0) := by unfold addR; rw [List.take_of_length_le hyes, List.take_of_length_le (Nat.le_refl _)]
      replace hadd := Lib.hid hadd
      replace hyes := Lib.hid hyes
      replace hL := Lib.hid hL
      replace hC := Lib.hid hC
      clear hsep hcell
      go_wp2_with fail
      go_ret
      exact ⟨rfl, by rw [hadd.out]; exact hL.out, hC.out⟩
end
end Go.Proofs.YtefippjakkgjkaaDoor.K

/- The walks of package calls: Of, all, Open, Newest, Len. -/
namespace Go.Proofs.YtefippjakkgjkaaDoor.K
open Go.RowKit

set_option maxHeartbeats 400000 in
theorem lof_nil (c : Int) (w : World) : Calls Tryd.prog 84 #[.pointer none, .int .i64 c] w fun e w' => e = .returned (.slice none 0 0) ∧ w = w' := by
  go_enter Tryd.func84, Tryd.ntmps84
  go_wp2
  go_ret
  exact ⟨rfl, rfl⟩
section
variable {w : World} {p rb cap n : Nat} {pp bb : Nat → Nat} {last : Int} {R : List (List Cl)}
set_option maxHeartbeats 1000000 in
theorem lof_no (h : ListsAt w p rb cap n pp bb last R) (c : Int) (hc : c < 0 ∨ (n : Int) ≤ c) : Calls Tryd.prog 84 #[.pointer (some ⟨p, 0, none⟩), .int .i64 c] w fun e w' => e = .returned (.slice none 0 0) ∧ w = w' := by
  have c0 := h.c0
  have hcase : c < 0 ∨ (¬ c < 0 ∧ (n : Int) ≤ c) := by omega
  clear h hc
  rcases hcase with h1 | ⟨h1, h2⟩
  all_goals
    go_enter Tryd.func84, Tryd.ntmps84
    go_wp2
    go_ret
    exact ⟨rfl, rfl⟩
set_option maxHeartbeats 1000000 in
theorem lof_any (h : ListsAt w p rb cap n pp bb last R) (c : Nat) (hc : c < n) :
    Calls Tryd.prog 84 #[.pointer (some ⟨p, 0, none⟩), .int .i64 c] w fun e w' => ∃ v, e = .returned v ∧ RowS 2 w.heap.size 114 w' v ((R.getD c []).map xc) ∧ Keeps w w' := by
  have hcI : (c : Int) < (n : Int) := by omega
  have hc0 : ¬ (c : Int) < 0 := by omega
  have hc00 : (0 : Int) ≤ (c : Int) := by omega
  have hnc := h.hn
  have hncap := h.hcap
  unfold maxLen at hncap
  have c0 := h.c0
  have cp := h.ptr c hc
  obtain ⟨hd, hR⟩ := h.ring c hc
  have hl := list_any hR
  replace hl := Lib.hid hl
  clear h hR
  go_enter Tryd.func84, Tryd.ntmps84
  go_wp2_with fail
  refine hl.out.mono ?_
  rintro e w2 ⟨v, rfl, hrow, hK⟩
  replace hrow := Lib.hid hrow
  replace hK := Lib.hid hK
  go_wp2_with fail
  go_ret
  exact ⟨v, rfl, hrow.out, hK.out⟩
theorem slcs_nilRow {sz base : Nat} {e : TypeId} {w : World} : RowS sz base e w (.slice none 0 0) [] := RowS.nil sz base e w
set_option maxRecDepth 100000 in
set_option maxHeartbeats 1000000 in
theorem lall_nil (w : World) : Calls Tryd.prog 70 #[.pointer none] w fun e w' => e = .returned (.slice none 0 0) ∧ w = w' := by
  go_enter Tryd.func70, Tryd.ntmps70
  go_wp2
  go_ret
  exact ⟨rfl, rfl⟩
theorem flat_take (R : List (List Cl)) (k : Nat) (hk : k < R.length) : (R.take (k + 1)).flatten = (R.take k).flatten ++ R.getD k [] := by
  rw [List.take_succ_eq_append_getElem hk, List.flatten_append]
  simp [List.getD, hk]
theorem flat_le (R : List (List Cl)) (h : ∀ i, i < R.length → (R.getD i []).length ≤ 64) (k : Nat) (hk : k ≤ R.length) : (R.take k).flatten.length ≤ 64 * k := by
  induction k with
  | zero => simp
  | succ k ih =>
    have h1 := ih (by omega)
    have h2 := h k (by omega)
    rw [flat_take R k (by omega), List.length_append]
    omega
set_option maxRecDepth 100000 in
set_option maxHeartbeats 2000000 in
theorem lall_any (h : ListsAt w p rb cap n pp bb last R) :
    Calls Tryd.prog 70 #[.pointer (some ⟨p, 0, none⟩)] w fun e w' => ∃ v, e = .returned v ∧ RowS 2 w.heap.size 114 w' v (R.flatten.map xc) ∧ Keeps w w' := by
  have c0 := h.c0
  have hnc := h.hn
  have hncap := h.hcap
  have hRl := h.len
  have hn64 := h.n64
  unfold maxLen at hncap
  have hle := flat_le R (fun i hi => by obtain ⟨hd, hR⟩ := h.ring i (by omega); exact hR.len)
  replace h := Lib.hid h
  replace hle := Lib.hid hle
  replace hRl := Lib.hid hRl
  go_enter Tryd.func70, Tryd.ntmps70
  go_wp2_with fail
  go_loopw [3, 12] (fun v i wr => ∃ (k : Nat) (v' : Value), k ≤ n ∧ i = .int .i64 k ∧ v' = v ∧ RowS 2 w.heap.size 114 wr v' ((R.take k).flatten.map xc) ∧ Keeps w wr) (fun _ i _ => n - (intOf i).toNat)
  case atStart => exact ⟨0, _, Nat.zero_le _, rfl, rfl, RowS.nil _ _ _ _, Keeps.refl _⟩
  case round =>
    clear c0
    obtain ⟨k, v, hk, rfl, rfl, hrow, hK⟩ := hrel
    have hkn : k < n ∨ k = n := by omega
    rcases hkn with hlt | rfl
    · have hltI := Int.ofNat_lt.2 hlt
      have hof := lof_any (h.out.keeps hK) k hlt
      replace hof := Lib.hid hof
      have hft := flat_take R k (by have := hRl.out; omega)
      have h1 := hle.out k (by have := hRl.out; omega)
      have h2 := hle.out (k + 1) (by have := hRl.out; omega)
      rw [hft, List.length_append] at h2
      replace hft := Lib.hid hft
      generalize R.getD k [] = X at *
      generalize (R.take k).flatten = F at *
      have hsz := hK.size
      replace hrow := Lib.hid hrow
      replace hK := Lib.hid hK
      go_wp2_with fail
      refine hof.out.mono ?_
      rintro e w2 ⟨v2, rfl, hrow2, hK2⟩
      have hrow1 := rowKeeps' hrow.out hK2
      have hsrc := hrow2.slcs
      have hsz2 := hK2.size
      have hb2 : w.heap.size ≤ w2.heap.size := by omega
      obtain ⟨q1, cap1, hq1⟩ := hrow1.any
      rw [List.length_map] at hq1
      subst hq1
      obtain ⟨q2, cap2, hq2⟩ := hrow2.any
      rw [List.length_map] at hq2
      subst hq2
      have hl1 : (F.map xc).length = F.length := List.length_map _
      have hl2 : (X.map xc).length = X.length := List.length_map _
      replace hrow1 := Lib.hid hrow1
      replace hsrc := Lib.hid hsrc
      replace hK2 := Lib.hid hK2
      replace hl1 := Lib.hid hl1
      replace hl2 := Lib.hid hl2
      clear hrow hrow2 hof
      go_wp2_with (at_builtin; refine appN rfl _ _ 122 114 _ 2 16 rfl Tryd.underlying122 info rfl (by decide) w.heap.size _ _ rfl hrow1.out _ _ rfl hsrc.out (fun el hel => by obtain ⟨x, _, rfl⟩ := List.mem_map.1 hel; exact xc_one x) ?c1 ?c2 ?c3 ?_)
      case c1 => rw [hl1.out, hl2.out]; unfold maxLen; omega
      case c2 => rw [hl1.out, hl2.out]; omega
      case c3 => exact hb2
      intro v4 w4 hrow4 _ hbel
      rw [← List.map_append, ← hft.out] at hrow4
      have hK4 : Keeps w w4 := Below.trans (Keeps.trans hK.out hK2.out) hbel
      replace hrow4 := Lib.hid hrow4
      replace hK4 := Lib.hid hK4
      clear hbel hrow1 hsrc hK hK2
      go_wp2_with fail
      go_roundw
      case rel => exact ⟨k + 1, _, by omega, by go_num, rfl, hrow4.out, hK4.out⟩
      case measure => (simp [intOf]; try omega)
    · rw [← hRl.out, List.take_of_length_le (Nat.le_refl _)] at hrow
      replace hrow := Lib.hid hrow
      replace hK := Lib.hid hK
      go_wp2_with fail
      go_ret
      exact ⟨v, rfl, hrow.out, hK.out⟩
end
end Go.Proofs.YtefippjakkgjkaaDoor.K

/- The walks of package calls: Open, Newest, Len. -/
namespace Go.Proofs.YtefippjakkgjkaaDoor.K
open Go.RowKit

def openC (l : List Cl) : Nat := (l.filter fun c => decide (c.2 = 0)).length
def newC (l : List Cl) : Int := l.foldl (fun m c => max m c.2) 0
theorem openC_succ (l : List Cl) (k : Nat) (hk : k < l.length) : openC (l.take (k + 1)) = openC (l.take k) + (if l[k].2 = 0 then 1 else 0) := by
  unfold openC
  rw [List.take_succ_eq_append_getElem hk, List.filter_append, List.length_append]
  by_cases h : l[k].2 = 0 <;> simp [h]
theorem newC_succ (l : List Cl) (k : Nat) (hk : k < l.length) : newC (l.take (k + 1)) = max (newC (l.take k)) l[k].2 := by
  unfold newC
  rw [List.take_succ_eq_append_getElem hk, List.foldl_append]; rfl
theorem rowCell {w : World} {base : Nat} {e : TypeId} {q : Option Addr} {m cap : Nat} {l : List Cl} (h : RowS 2 base e w (.slice q m cap) (l.map xc)) (k : Nat) (hk : k < l.length) : ∃ g off, q = some ⟨g, off, none⟩ ∧ w.cell? ⟨g, off + k * 2, none⟩ = some (.int .i64 l[k].1) ∧ w.cell? ⟨g, off + k * 2 + 1, none⟩ = some (.int .i64 l[k].2) := by
  obtain ⟨q', cap', hv, _, _, hc⟩ := srcCell h.slcs
  obtain ⟨g, off, hq, hx⟩ := hc k hk
  simp only [Value.slice.injEq] at hv
  refine ⟨g, off, by rw [hv.1]; exact hq, ?_, ?_⟩
  · have := hx 0 (by decide); simpa [xc] using this
  · have := hx 1 (by decide); simpa [xc] using this
theorem rowCap {w : World} {base : Nat} {e : TypeId} {v : Value} {l : List Cl} (h : RowS 2 base e w v (l.map xc)) : ∃ q cap, v = .slice q l.length cap ∧ l.length ≤ cap ∧ cap ≤ 9223372036854775807 := by
  obtain ⟨q, cap, hv, h1, h2, _⟩ := srcCell h.slcs
  exact ⟨q, cap, hv, h1, h2⟩
/-- What nil lists or lists hold, all together. -/
def AllAt (w : World) (q : Value) (l : List Cl) : Prop := (q = .pointer none ∧ l = []) ∨ ∃ p rb cap n pp bb last R, q = .pointer (some ⟨p, 0, none⟩) ∧ l = List.flatten R ∧ ListsAt w p rb cap n pp bb last R
theorem all_call {w : World} {q : Value} {l : List Cl} (h : AllAt w q l) : Calls Tryd.prog 70 #[q] w fun e w' => ∃ v, e = .returned v ∧ RowS 2 w.heap.size 114 w' v (l.map xc) ∧ Keeps w w' := by
  rcases h with ⟨rfl, rfl⟩ | ⟨p, rb, cap, n, pp, bb, last, R, rfl, rfl, h⟩
  · refine (lall_nil w).mono ?_
    rintro e w' ⟨rfl, rfl⟩
    exact ⟨_, rfl, RowS.nil _ _ _ _, Keeps.refl _⟩
  · exact lall_any h
theorem AllAt.ptr {w : World} {q : Value} {l : List Cl} (h : AllAt w q l) : ∃ a, q = .pointer a := by
  rcases h with ⟨rfl, _⟩ | ⟨p, _, _, _, _, _, _, _, rfl, _⟩
  · exact ⟨_, rfl⟩
  · exact ⟨_, rfl⟩
set_option maxHeartbeats 1000000 in
theorem llen_any {w : World} {q : Value} {l : List Cl} (h : AllAt w q l) : Calls Tryd.prog 45 #[q] w fun e w' => e = .returned (.int .i64 l.length) ∧ Keeps w w' := by
  have hall := all_call h
  obtain ⟨a, rfl⟩ := h.ptr
  replace hall := Lib.hid hall
  clear h
  go_enter Tryd.func45, Tryd.ntmps45
  go_wp2_with fail
  refine hall.out.mono ?_
  rintro e w2 ⟨v, rfl, hrow, hK⟩
  obtain ⟨q, cap, rfl, _, _⟩ := rowCap hrow
  replace hK := Lib.hid hK
  clear hrow
  go_wp2_with fail
  go_ret
  exact ⟨rfl, hK.out⟩
set_option maxRecDepth 100000 in
set_option maxHeartbeats 1000000 in
theorem lopen_any {w : World} {q : Value} {l : List Cl} (h : AllAt w q l) : Calls Tryd.prog 46 #[q] w fun e w' => e = .returned (.int .i64 (openC l : Nat)) ∧ Keeps w w' := by
  have hall := all_call h
  obtain ⟨a, rfl⟩ := h.ptr
  replace hall := Lib.hid hall
  clear h
  go_enter Tryd.func46, Tryd.ntmps46
  go_wp2_with fail
  refine hall.out.mono ?_
  rintro e w2 ⟨v, rfl, hrow, hK⟩
  obtain ⟨q, cap, rfl, h1, h2⟩ := rowCap hrow
  have hl0 : (0 : Int) ≤ l.length := by omega
  replace hK := Lib.hid hK
  replace hrow := Lib.hid hrow
  go_wp2_with fail
  go_loopw [3, 9] (fun t i wr => ∃ k : Nat, k ≤ l.length ∧ i = .int .i64 k ∧ t = .int .i64 (openC (l.take k) : Nat) ∧ Keeps w2 wr) (fun _ i _ => l.length - (intOf i).toNat)
  case atStart => exact ⟨0, Nat.zero_le _, rfl, rfl, Keeps.refl _⟩
  case round =>
    obtain ⟨k, hk, rfl, rfl, hKr⟩ := hrel
    have hkl : k < l.length ∨ k = l.length := by omega
    rcases hkl with hlt | rfl
    · have hltI := Int.ofNat_lt.2 hlt
      obtain ⟨g, off, rfl, x0, x1⟩ := rowCell (rowKeeps' hrow.out hKr) k hlt
      have hs := openC_succ l k hlt
      have hKn := Keeps.trans hKr (Keeps.alloc wr (.cells #[.int .i64 l[k].1, .int .i64 l[k].2] 114))
      have hob : openC (l.take k) ≤ k := by unfold openC; exact Nat.le_trans (List.length_filter_le _ _) (by rw [List.length_take]; omega)
      generalize l[k].1 = a at *
      generalize l[k].2 = b at *
      generalize openC (l.take k) = T at *
      by_cases hb : b = 0
      · have hbb : (b == 0) = true := by simpa using hb
        rw [if_pos hb] at hs
        replace hs := Lib.hid hs
        replace hb := Lib.hid hb
        replace hKn := Lib.hid hKn
        clear hKr
        go_wp2_with fail
        go_roundw
        case rel => exact ⟨k + 1, by omega, by go_num, by rw [hs.out]; go_num, hKn.out⟩
        case measure => (simp [intOf]; try omega)
      · have hbb : (b == 0) = false := by simpa using hb
        rw [if_neg hb] at hs
        replace hs := Lib.hid hs
        replace hb := Lib.hid hb
        replace hKn := Lib.hid hKn
        clear hKr
        go_wp2_with fail
        go_roundw
        case rel => exact ⟨k + 1, by omega, by go_num, by rw [hs.out]; rfl, hKn.out⟩
        case measure => (simp [intOf]; try omega)
    · rw [List.take_of_length_le (Nat.le_refl _)]
      have hKf := Lib.hid (Keeps.trans hK.out hKr)
      clear hKr
      go_wp2_with fail
      go_ret
      exact ⟨rfl, hKf.out⟩
set_option maxRecDepth 100000 in
set_option maxHeartbeats 1000000 in
theorem lnewest_any {w : World} {q : Value} {l : List Cl} (h : AllAt w q l) : Calls Tryd.prog 47 #[q] w fun e w' => e = .returned (.int .i64 (newC l)) ∧ Keeps w w' := by
  have hall := all_call h
  obtain ⟨a, rfl⟩ := h.ptr
  replace hall := Lib.hid hall
  clear h
  go_enter Tryd.func47, Tryd.ntmps47
  go_wp2_with fail
  refine hall.out.mono ?_
  rintro e w2 ⟨v, rfl, hrow, hK⟩
  obtain ⟨q, cap, rfl, h1, h2⟩ := rowCap hrow
  have hl0 : (0 : Int) ≤ l.length := by omega
  replace hK := Lib.hid hK
  replace hrow := Lib.hid hrow
  go_wp2_with fail
  go_loopw [3, 9] (fun t i wr => ∃ k : Nat, k ≤ l.length ∧ i = .int .i64 k ∧ t = .int .i64 (newC (l.take k)) ∧ Keeps w2 wr) (fun _ i _ => l.length - (intOf i).toNat)
  case atStart => exact ⟨0, Nat.zero_le _, rfl, rfl, Keeps.refl _⟩
  case round =>
    obtain ⟨k, hk, rfl, rfl, hKr⟩ := hrel
    have hkl : k < l.length ∨ k = l.length := by omega
    rcases hkl with hlt | rfl
    · have hltI := Int.ofNat_lt.2 hlt
      obtain ⟨g, off, rfl, x0, x1⟩ := rowCell (rowKeeps' hrow.out hKr) k hlt
      have hs := newC_succ l k hlt
      have hKn := Keeps.trans hKr (Keeps.alloc wr (.cells #[.int .i64 l[k].1, .int .i64 l[k].2] 114))
      generalize l[k].1 = a at *
      generalize l[k].2 = b at *
      generalize newC (l.take k) = T at *
      have hcase : T < b ∨ ¬ T < b := by omega
      rcases hcase with hb | hb
      all_goals
        first | rw [Int.max_eq_right (Int.le_of_lt hb)] at hs | rw [Int.max_eq_left (Int.not_lt.1 hb)] at hs
        replace hs := Lib.hid hs
        replace hKn := Lib.hid hKn
        clear hKr
        go_wp2_with fail
        go_roundw
        case rel => exact ⟨k + 1, by omega, by go_num, by rw [hs.out], hKn.out⟩
        case measure => (simp [intOf]; try omega)
    · rw [List.take_of_length_le (Nat.le_refl _)]
      have hKf := Lib.hid (Keeps.trans hK.out hKr)
      clear hKr
      go_wp2_with fail
      go_ret
      exact ⟨rfl, hKf.out⟩
end Go.Proofs.YtefippjakkgjkaaDoor.K

/- The walks of package calls: Close. -/
namespace Go.Proofs.YtefippjakkgjkaaDoor.K
open Go.RowKit

/-- A generation for one that has none. -/
def clo (g : Int) (c : Cl) : Cl := if c.2 = 0 then (c.1, g) else c
abbrev cloFn (B : Nat) : Value := .func (.func 81) #[] #[.pointer (some ⟨B, 0, none⟩)]
set_option maxHeartbeats 1000000 in
theorem cloFn_any (a b g : Int) (B : Nat) (w : World) (hB : w.cell? ⟨B, 0, none⟩ = some (.int .i64 g)) :
    Calls Tryd.prog 81 #[.agg #[.int .i64 a, .int .i64 b], .pointer (some ⟨B, 0, none⟩)] w fun e w' => e = .returned (.agg #[.int .i64 (clo g (a, b)).1, .int .i64 (clo g (a, b)).2]) ∧ Keeps w w' := by
  have hlt : B < w.heap.size := cell_lt hB
  obtain ⟨B0, hB0⟩ : ∃ B0, B0 = w.heap.size := ⟨_, rfl⟩
  have hall : ∀ W, Keeps w W → W.cell? ⟨B, 0, none⟩ = some (.int .i64 g) := fun W hk => (hk.cell (p := ⟨B, 0, none⟩) hlt).trans hB
  replace hall := Lib.hid hall
  by_cases hb : b = 0
  · have hbb : (b == 0) = true := by simpa using hb
    have e : clo g (a, b) = (a, g) := by unfold clo; rw [if_pos hb]
    rw [e]
    replace e := Lib.hid e
    replace hb := Lib.hid hb
    go_enter Tryd.func81, Tryd.ntmps81
    go_upto_region 1 with (fail)
    rw [← hB0]
    refine wp_gen (fun W => Blk W B0 114 [.int .i64 a, .int .i64 b] ∧ Blk W (B0 + 1) 114 (xc (0, 0)) ∧ Keeps w W) ⟨(Blk.at hB0 rfl).alloc _, Blk.at (by rw [World.size_alloc, hB0]) rfl, Keeps.trans (Keeps.alloc _ _) (Keeps.alloc _ _)⟩ ?_
    rintro W ⟨hA, hR, hK⟩
    have x0 := hA.cell 0 (by simp)
    have x1 := hA.cell 1 (by simp)
    have f1 := hA.frozen 1
    have r0 := hR.cell 0 (by simp [xc])
    have r1 := hR.cell 1 (by simp [xc])
    have q0 := hR.frozen 0
    have q1 := hR.frozen 1
    have cB := hall.out W hK
    simp only [xc, List.getElem_cons_zero, List.getElem_cons_succ] at x0 x1 r0 r1
    have hBne : B ≠ B0 := by omega
    replace hA := Lib.hid hA
    replace hR := Lib.hid hR
    replace hK := Lib.hid hK
    replace hB0 := Lib.hid hB0
    clear hB hall
    go_wp2_with fail
    refine bodyPost_ret (results_row (cs := xc (a, g)) rfl _ (((hR.out.other (by omega) 1 _).set 0 _).set 1 _) rfl _ Tryd.underlying114 rfl 2 sizeE rfl) rfl ⟨rfl, ?_⟩
    exact ((((Chg.of_keeps (S := fun _ => False) hK.out).newCell (Nat.le_of_eq hB0.out.symm) _ _).newCell (by rw [hB0.out]; omega) _ _).newCell (by rw [hB0.out]; omega) _ _).keeps_new (fun _ _ h => h)
  · have hbb : (b == 0) = false := by simpa using hb
    have e : clo g (a, b) = (a, b) := by unfold clo; rw [if_neg hb]
    rw [e]
    replace e := Lib.hid e
    replace hb := Lib.hid hb
    go_enter Tryd.func81, Tryd.ntmps81
    go_upto_region 1 with (fail)
    rw [← hB0]
    refine wp_gen (fun W => Blk W B0 114 [.int .i64 a, .int .i64 b] ∧ Blk W (B0 + 1) 114 (xc (0, 0)) ∧ Keeps w W) ⟨(Blk.at hB0 rfl).alloc _, Blk.at (by rw [World.size_alloc, hB0]) rfl, Keeps.trans (Keeps.alloc _ _) (Keeps.alloc _ _)⟩ ?_
    rintro W ⟨hA, hR, hK⟩
    have x0 := hA.cell 0 (by simp)
    have x1 := hA.cell 1 (by simp)
    have r0 := hR.cell 0 (by simp [xc])
    have r1 := hR.cell 1 (by simp [xc])
    have q0 := hR.frozen 0
    have q1 := hR.frozen 1
    simp only [xc, List.getElem_cons_zero, List.getElem_cons_succ] at x0 x1 r0 r1
    replace hA := Lib.hid hA
    replace hR := Lib.hid hR
    replace hK := Lib.hid hK
    replace hB0 := Lib.hid hB0
    clear hB hall
    go_wp2_with fail
    refine bodyPost_ret (results_row (cs := xc (a, b)) rfl _ ((hR.out.set 0 _).set 1 _) rfl _ Tryd.underlying114 rfl 2 sizeE rfl) rfl ⟨rfl, ?_⟩
    exact ((((Chg.of_keeps (S := fun _ => False) hK.out).newCell (by rw [hB0.out]; omega) _ _).newCell (by rw [hB0.out]; omega) _ _)).keeps_new (fun _ _ h => h)
/-- A ring of which k are turned. -/
def trn (g : Int) (xs : List Cl) (k : Nat) : List Cl := xs.drop k ++ (xs.take k).map (clo g)
theorem trn_zero (g : Int) (xs : List Cl) : trn g xs 0 = xs := by simp [trn]
theorem trn_all (g : Int) (xs : List Cl) : trn g xs xs.length = xs.map (clo g) := by simp [trn]
theorem trn_len (g : Int) (xs : List Cl) (k : Nat) (h : k ≤ xs.length) : (trn g xs k).length = xs.length := by simp [trn]; omega
theorem trn_step (g : Int) (xs : List Cl) (k : Nat) (h : k < xs.length) : trn g xs k = xs[k] :: (xs.drop (k + 1) ++ (xs.take k).map (clo g)) ∧ (xs.drop (k + 1) ++ (xs.take k).map (clo g)) ++ [clo g xs[k]] = trn g xs (k + 1) := by
  constructor
  · rw [trn, List.drop_eq_getElem_cons h]; rfl
  · rw [trn, List.take_succ_eq_append_getElem h, List.map_append, List.append_assoc]; rfl
set_option maxRecDepth 100000 in
set_option maxHeartbeats 2000000 in
theorem turn_any {w : World} {p b hd : Nat} {xs : List Cl} (hR : RingAt w p b 64 hd xs) (g : Int) (hg : 1 ≤ g) (B : Nat) (hB : w.cell? ⟨B, 0, none⟩ = some (.int .i64 g)) (hBp : B ≠ p ∧ B ≠ b) :
    Calls Tryd.prog 80 #[.pointer (some ⟨p, 0, none⟩), cloFn B] w fun e w' => e = .returned (.int .i64 (openC xs : Nat)) ∧ (∃ hd, RingAt w' p b 64 hd (xs.map (clo g))) ∧ Chg (fun k => k = p ∨ k = b) w w' := by
  have hlen := len_any hR
  have hx64 := hR.len
  have hx0 : (0 : Int) ≤ xs.length := by omega
  have hBl : B < w.heap.size := cell_lt hB
  have hg1 : ((0 : Int) == g) = false := by rw [beq_eq_false_iff_ne]; omega
  have hg2 : decide ((0 : Int) = g) = false := by simp; omega
  replace hlen := Lib.hid hlen
  replace hR := Lib.hid hR
  replace hB := Lib.hid hB
  go_enter Tryd.func80, Tryd.ntmps80
  go_wp2_with fail
  refine hlen.out.mono ?_
  rintro e w1 ⟨rfl, rfl⟩
  go_wp2_with fail
  go_loopw [5, 11] (fun t i wr => ∃ (k hd : Nat), k ≤ xs.length ∧ i = .int .i64 k ∧ t = .int .i64 (openC (xs.take k) : Nat) ∧ RingAt wr p b 64 hd (trn g xs k) ∧ Chg (fun k => k = p ∨ k = b) w wr) (fun _ i _ => xs.length - (intOf i).toNat)
  case atStart => exact ⟨0, _, Nat.zero_le _, rfl, rfl, by rw [trn_zero]; exact hR.out, Chg.refl _ _⟩
  case round =>
    clear hR hlen
    obtain ⟨k, hd, hk, rfl, rfl, hR, hC⟩ := hrel
    have hkl : k < xs.length ∨ k = xs.length := by omega
    rcases hkl with hlt | rfl
    · have hltI := Int.ofNat_lt.2 hlt
      obtain ⟨s1, s2⟩ := trn_step g xs k hlt
      have hYl : (xs.drop (k + 1) ++ (xs.take k).map (clo g)).length < 64 := by simp; omega
      rw [s1] at hR
      have hs := openC_succ xs k hlt
      have hob : openC (xs.take k) ≤ k := by unfold openC; exact Nat.le_trans (List.length_filter_le _ _) (by rw [List.length_take]; omega)
      generalize xs.drop (k + 1) ++ (xs.take k).map (clo g) = Y at *
      generalize openC (xs.take k) = T at *
      generalize xs[k] = c at *
      obtain ⟨a, bg⟩ := c
      have hpop := pop_yes hR
      replace hs := Lib.hid hs
      replace s2 := Lib.hid s2
      replace hpop := Lib.hid hpop
      replace hC := Lib.hid hC
      clear s1 hR
      go_wp2_with fail
      refine hpop.out.mono ?_
      rintro e w2 ⟨rfl, hR2, hC2⟩
      have hC3 := hC.out.trans hC2
      obtain ⟨B6, hB6⟩ : ∃ B6, B6 = w2.heap.size := ⟨_, rfl⟩
      have hlt2 := hR2.lt
      replace hR2 := Lib.hid hR2
      replace hC3 := Lib.hid hC3
      clear hC2 hC hpop
      go_upto_region 5 with (fail)
      rw [← hB6]
      refine wp_gen (fun W => Blk W B6 114 [.int .i64 a, .int .i64 bg] ∧ Keeps w2 W) ⟨Blk.at hB6 rfl, Keeps.alloc _ _⟩ ?_
      rintro W ⟨hA, hK⟩
      have hBW : W.cell? ⟨B, 0, none⟩ = some (.int .i64 g) := (hK.cell (p := ⟨B, 0, none⟩) (Nat.lt_of_lt_of_le hBl hC3.out.size)).trans ((hC3.out.cell'' (p := ⟨B, 0, none⟩) hBl (by simp only; omega)).trans hB.out)
      have hcf := cloFn_any a bg g B W hBW
      have x0 := hA.cell 0 (by simp)
      have x1 := hA.cell 1 (by simp)
      simp only [List.getElem_cons_zero, List.getElem_cons_succ] at x0 x1
      replace hcf := Lib.hid hcf
      replace hA := Lib.hid hA
      replace hK := Lib.hid hK
      have hB6l : B6 = w2.heap.size := hB6
      replace hB6 := Lib.hid hB6
      have hpb6 : B6 ≠ p ∧ B6 ≠ b ∧ B6 + 1 ≠ p ∧ B6 + 1 ≠ b := by omega
      replace hB6l := Lib.hid hB6l
      clear hBW
      go_wp2_with fail
      refine hcf.out.mono ?_
      rintro e w4 ⟨rfl, hK4⟩
      have hA4 := hA.out.keeps hK4
      have hK5 := Keeps.trans hK.out hK4
      have hR4 := hR2.out.keeps hK5
      have hC4 := hC3.out.trans (Chg.of_keeps hK5)
      have hAl := hA4.lt
      generalize hd' : clo g (a, bg) = d at *
      obtain ⟨d0, d1⟩ := d
      obtain ⟨B8, hB8⟩ : ∃ B8, B8 = w4.heap.size := ⟨_, rfl⟩
      replace hA4 := Lib.hid hA4
      replace hR4 := Lib.hid hR4
      replace hC4 := Lib.hid hC4
      clear hA hK hK4 hK5 hR2 hC3 hcf x0 x1
      go_upto_region 6 with (fail)
      rw [← hB8]
      refine wp_gen (fun W => Blk W B6 114 [.int .i64 a, .int .i64 bg] ∧ Blk W B8 114 (xc (d0, d1)) ∧ (∃ hd, RingAt W p b 64 hd Y) ∧ Chg (fun k => k = p ∨ k = b) w W) ⟨hA4.out.alloc _, Blk.at hB8 rfl, ⟨_, hR4.out.keeps (Keeps.alloc _ _)⟩, hC4.out.trans (Chg.of_keeps (Keeps.alloc _ _))⟩ ?_
      rintro W6 ⟨hA6, hD6, ⟨hd6, hR6⟩, hC6⟩
      have hpush := push1_any hR6 hYl (d0, d1) W6.heap.size rfl rfl
      have hB8p : B8 ≠ p ∧ B8 ≠ b := by have := hR4.out.lt; omega
      have y0 := hD6.cell 0 (by simp [xc])
      have y1 := hD6.cell 1 (by simp [xc])
      simp only [xc, List.getElem_cons_zero, List.getElem_cons_succ] at y0 y1
      replace hpush := Lib.hid hpush
      replace hA6 := Lib.hid hA6
      replace hD6 := Lib.hid hD6
      replace hC6 := Lib.hid hC6
      clear hA4 hR4 hC4 hR6 hB8
      go_wp2_with fail
      refine hpush.out.mono ?_
      rintro e w7 ⟨rfl, hR7, hC7⟩
      have hA7 := hA6.out.chg hC7 (by omega)
      have hD7 := hD6.out.chg hC7 (by omega)
      have z0 := hA7.cell 0 (by simp)
      have z1 := hA7.cell 1 (by simp)
      have y0 := hD7.cell 0 (by simp [xc])
      have y1 := hD7.cell 1 (by simp [xc])
      simp only [xc, List.getElem_cons_zero, List.getElem_cons_succ] at y0 y1 z0 z1
      have hC8 := hC6.out.trans hC7
      replace hR7 := Lib.hid hR7
      replace hC8 := Lib.hid hC8
      clear hA6 hD6 hC6 hC7 hpush hA7 hD7
      by_cases hb : bg = 0
      · have e2 : (d0, d1) = (a, g) := by rw [← hd']; unfold clo; rw [if_pos hb]
        obtain ⟨rfl, rfl⟩ : d0 = a ∧ d1 = g := by simpa using e2
        subst hb
        have hs' := hs.out
        simp only [if_true] at hs'
        replace hs' := Lib.hid hs'
        replace hd' := Lib.hid hd'
        clear e2 hs
        go_wp2_with fail
        go_roundw
        case rel => exact ⟨k + 1, hd6, by omega, by go_num, by rw [hs'.out]; go_num, by rw [← s2.out]; exact hR7.out, hC8.out⟩
        case measure => (simp [intOf]; try omega)
      · have e2 : (d0, d1) = (a, bg) := by rw [← hd']; unfold clo; rw [if_neg hb]
        obtain ⟨rfl, rfl⟩ : d0 = a ∧ d1 = bg := by simpa using e2
        have hs' := hs.out
        simp only [if_neg hb, Nat.add_zero] at hs'
        replace hs' := Lib.hid hs'
        replace hd' := Lib.hid hd'
        replace hb := Lib.hid hb
        clear e2 hs
        go_wp2_with fail
        go_roundw
        case rel => exact ⟨k + 1, hd6, by omega, by go_num, by rw [hs'.out], by rw [← s2.out]; exact hR7.out, hC8.out⟩
        case measure => (simp [intOf]; try omega)
    · have hall := trn_all g xs
      rw [hall] at hR
      rw [List.take_of_length_le (Nat.le_refl _)]
      replace hR := Lib.hid hR
      replace hC := Lib.hid hC
      clear hall
      go_wp2_with fail
      go_ret
      exact ⟨rfl, ⟨_, hR.out⟩, hC.out⟩
/-! ### Close -/
/-- What is closed: of all rings. -/
def closeL (g : Int) (R : List (List Cl)) : List (List Cl) := R.map fun xs => xs.map (clo g)
set_option maxRecDepth 100000 in
set_option maxHeartbeats 1000000 in
theorem lclose_nil (g : Int) (w : World) : Calls Tryd.prog 66 #[.pointer none, .int .i64 g] w fun e w' => e = .returned (.int .i64 0) ∧ Keeps w w' := by
  go_enter Tryd.func66, Tryd.ntmps66
  go_wp2_with fail
  go_quiet (fail)
  rename_i nq
  go_wp2_with fail
  go_ret
  exact ⟨rfl, Keeps.trans (Keeps.alloc _ _) (Keeps.drewN _ _)⟩
/-- Rings of which k are closed. -/
def cloTo (g : Int) (R : List (List Cl)) (k : Nat) : List (List Cl) := (R.take k).map (fun xs => xs.map (clo g)) ++ R.drop k
theorem cloTo_zero (g : Int) (R : List (List Cl)) : cloTo g R 0 = R := by simp [cloTo]
theorem cloTo_all (g : Int) (R : List (List Cl)) : cloTo g R R.length = closeL g R := by simp [cloTo, closeL]
theorem cloTo_len (g : Int) (R : List (List Cl)) (k : Nat) (h : k ≤ R.length) : (cloTo g R k).length = R.length := by simp [cloTo]; omega
theorem cloTo_get (g : Int) (R : List (List Cl)) (k : Nat) (h : k < R.length) : (cloTo g R k).getD k [] = R.getD k [] := by
  unfold cloTo
  rw [List.getD, List.getElem?_append_right (by simp; omega), List.getElem?_drop]
  simp [List.getD, Nat.min_eq_left (Nat.le_of_lt h)]
theorem cloTo_set (g : Int) (R : List (List Cl)) (k : Nat) (h : k < R.length) : (cloTo g R k).set k ((R.getD k []).map (clo g)) = cloTo g R (k + 1) := by
  unfold cloTo
  have e : k - ((R.take k).map fun xs => xs.map (clo g)).length = 0 := by simp; omega
  rw [show R.getD k [] = R[k] by simp [List.getD, h], List.set_append_right _ _ (by simp; omega), e, List.drop_eq_getElem_cons h, List.set_cons_zero, List.take_succ_eq_append_getElem h, List.map_append, List.append_assoc]
  rfl
section
variable {w : World} {p rb cap n : Nat} {pp bb : Nat → Nat} {last : Int} {R : List (List Cl)}
set_option maxRecDepth 100000 in
set_option maxHeartbeats 1000000 in
theorem lclose_no (h : ListsAt w p rb cap n pp bb last R) (g : Int) (hg : g < 1 ∨ g < last) : Calls Tryd.prog 66 #[.pointer (some ⟨p, 0, none⟩), .int .i64 g] w fun e w' => e = .returned (.int .i64 0) ∧ Keeps w w' := by
  have hc1 := fun (W : World) (hk : Keeps w W) => (h.keeps hk).c1
  have hcase : (g < 1 ∧ decide (g < 1) = true) ∨ (¬ g < 1 ∧ decide (g < 1) = false ∧ decide (g < last) = true) := by
    by_cases h1 : g < 1
    · exact .inl ⟨h1, by simpa using h1⟩
    · exact .inr ⟨h1, by simpa using h1, by simp; omega⟩
  replace hc1 := Lib.hid hc1
  clear h hg
  obtain ⟨B0, hB0⟩ : ∃ B0, B0 = w.heap.size := ⟨_, rfl⟩
  rcases hcase with ⟨h1, e1⟩ | ⟨h1, e1, e2⟩
  all_goals
    go_enter Tryd.func66, Tryd.ntmps66
    go_upto_region 1 with (fail)
    rw [← hB0]
    refine wp_gen (fun W => W.cell? ⟨B0, 0, none⟩ = some (.int .i64 g) ∧ Keeps w W) ⟨(Blk.at (t := 3) (cs := [.int .i64 g]) hB0 rfl).cell 0 (by simp), Keeps.alloc _ _⟩ ?_
    rintro W ⟨x0, hK⟩
    have c1 := hc1.out W hK
    replace hK := Lib.hid hK
    replace hB0 := Lib.hid hB0
    go_quiet (fail)
    rename_i nq
    go_wp2_with fail
    go_ret
    exact ⟨rfl, Keeps.trans hK.out (Keeps.drewN _ _)⟩
theorem openC_append (l l' : List Cl) : openC (l ++ l') = openC l + openC l' := by unfold openC; rw [List.filter_append, List.length_append]
set_option maxRecDepth 100000 in
set_option maxHeartbeats 2000000 in
theorem lclose_any (h : ListsAt w p rb cap n pp bb last R) (g : Int) (h1 : 1 ≤ g) (h2 : last ≤ g) : Calls Tryd.prog 66 #[.pointer (some ⟨p, 0, none⟩), .int .i64 g] w fun e w' => e = .returned (.int .i64 (openC R.flatten : Nat)) ∧ ListsAt w' p rb cap n pp bb g (closeL g R) ∧ Chg (Foot p rb n pp bb) w w' := by
  have hall := fun (W : World) (hk : Keeps w W) => h.keeps hk
  have hRl := h.len
  have hn64 := h.n64
  have hnc := h.hn
  have hncap := h.hcap
  have hfl := h.foot_lt
  have hpl := h.hdr.lt
  unfold maxLen at hncap
  have e1 : decide (g < 1) = false := by simp; omega
  have e2 : decide (g < last) = false := by simp; omega
  have h1' : ¬ g < 1 := by omega
  have hr64 : ∀ i, (R.getD i []).length ≤ 64 := fun i => by
    by_cases hi : i < n
    · obtain ⟨hd, hR⟩ := h.ring i hi; exact hR.len
    · simp [List.getD, show R.length ≤ i by omega]
  have hle := flat_le R (fun i _ => hr64 i)
  have hoc : ∀ l : List Cl, openC l ≤ l.length := fun l => by unfold openC; exact List.length_filter_le _ _
  have hft := fun k (hk : k < n) => flat_take R k (by omega)
  replace hall := Lib.hid hall
  replace hRl := Lib.hid hRl
  replace hfl := Lib.hid hfl
  replace hle := Lib.hid hle
  replace hoc := Lib.hid hoc
  replace hft := Lib.hid hft
  replace hr64 := Lib.hid hr64
  clear h
  obtain ⟨B0, hB0⟩ : ∃ B0, B0 = w.heap.size := ⟨_, rfl⟩
  go_enter Tryd.func66, Tryd.ntmps66
  go_upto_region 1 with (fail)
  rw [← hB0]
  refine wp_gen (fun W => Blk W B0 3 [.int .i64 g] ∧ Keeps w W) ⟨Blk.at hB0 rfl, Keeps.alloc _ _⟩ ?_
  rintro W ⟨hX, hK⟩
  have x0 := hX.cell 0 (by simp)
  simp only [List.getElem_cons_zero] at x0
  have c1 := (hall.out W hK).c1
  have hBF : ¬ Foot p rb n pp bb B0 := fun hf => by have := hfl.out _ hf; omega
  have hB0p : p ≠ B0 := by omega
  replace hBF := Lib.hid hBF
  replace hK := Lib.hid hK
  replace hX := Lib.hid hX
  replace hB0 := Lib.hid hB0
  go_quiet (fail)
  rename_i nq
  have hLq := hall.out _ (Keeps.trans hK.out (Keeps.drewN W nq))
  have hXq := hX.out.keeps (Keeps.drewN W nq)
  have hL1 := hLq.setLast g
  have hX1 := hXq.other hB0p.symm 1 (.int .i64 g)
  have hC1 : Chg (Foot p rb n pp bb) w ((W.drewN nq).setCell ⟨p, 1, none⟩ (.int .i64 g)) := (Chg.of_keeps (Keeps.trans hK.out (Keeps.drewN W nq))).trans (Chg.setCell _ _ (.inl rfl))
  have f1 := hLq.hdr.frozen 1
  have d0 := hL1.c0
  replace hL1 := Lib.hid hL1
  replace hX1 := Lib.hid hX1
  replace hC1 := Lib.hid hC1
  clear hLq hXq hX hK hall
  go_upto_region 5 with (fail)
  refine wp_gen (fun W => ListsAt W p rb cap n pp bb g R ∧ Blk W B0 3 [.int .i64 g] ∧ Chg (Foot p rb n pp bb) w W) ⟨hL1.out, hX1.out, hC1.out⟩ ?_
  clear hL1 hX1 hC1 d0 f1 c1 x0
  rintro W2 ⟨hL2, hX2, hC2⟩
  have d0 := hL2.c0
  replace hL2 := Lib.hid hL2
  replace hX2 := Lib.hid hX2
  replace hC2 := Lib.hid hC2
  go_wp2_with fail
  go_loopw [5, 31] (fun t i wr => ∃ k : Nat, k ≤ n ∧ i = .int .i64 k ∧ t = .int .i64 (openC (R.take k).flatten : Nat) ∧ ListsAt wr p rb cap n pp bb g (cloTo g R k) ∧ Blk wr B0 3 [.int .i64 g] ∧ Chg (Foot p rb n pp bb) w wr) (fun _ i _ => n - (intOf i).toNat)
  case atStart => exact ⟨0, Nat.zero_le _, rfl, by rw [List.take_zero]; rfl, by rw [cloTo_zero]; exact hL2.out, hX2.out, hC2.out⟩
  case round =>
    clear hL2 hX2 hC2 d0
    obtain ⟨k, hk, rfl, rfl, hL, hX, hC⟩ := hrel
    have hkn : k < n ∨ k = n := by omega
    rcases hkn with hlt | rfl
    · have hltI := Int.ofNat_lt.2 hlt
      have hRk : k < R.length := by have := hRl.out; omega
      have cp := hL.ptr k hlt
      obtain ⟨hd, hR⟩ := hL.ring k hlt
      rw [cloTo_get g R k hRk] at hR
      have xB := hX.cell 0 (by simp)
      simp only [List.getElem_cons_zero] at xB
      have hsep : B0 ≠ pp k ∧ B0 ≠ bb k := ⟨fun e => hBF.out (.inr (.inr ⟨k, hlt, .inl e⟩)), fun e => hBF.out (.inr (.inr ⟨k, hlt, .inr e⟩))⟩
      have htn := turn_any hR g h1 B0 xB hsep
      have hset := cloTo_set g R k hRk
      have ho := openC_append (R.take k).flatten (R.getD k [])
      rw [← hft.out k hlt] at ho
      have hb1 : openC (R.take k).flatten ≤ 64 * 64 := Nat.le_trans (hoc.out _) (Nat.le_trans (hle.out k (by omega)) (Nat.mul_le_mul_left _ (by omega)))
      have hb2 : openC (R.getD k []) ≤ 64 := Nat.le_trans (hoc.out _) (hr64.out k)
      generalize openC (R.take k).flatten = T at *
      generalize openC (R.getD k []) = U at *
      generalize (R.getD k []).map (clo g) = Y at *
      replace htn := Lib.hid htn
      replace hset := Lib.hid hset
      replace ho := Lib.hid ho
      replace hL := Lib.hid hL
      replace hX := Lib.hid hX
      replace hC := Lib.hid hC
      clear hR xB
      go_wp2_with fail
      refine htn.out.mono ?_
      rintro e w4 ⟨rfl, ⟨hd4, hR4⟩, hC4⟩
      have hL4 := hL.out.set hlt hR4 hC4
      rw [hset.out] at hL4
      have hX4 := hX.out.chg hC4 (by omega)
      have hC5 := hC.out.trans (Chg.toFoot (p := p) (rb := rb) hlt hC4)
      replace hL4 := Lib.hid hL4
      replace hX4 := Lib.hid hX4
      replace hC5 := Lib.hid hC5
      clear hR4 hC4 hL hX hC htn
      go_wp2_with fail
      go_roundw
      case rel => exact ⟨k + 1, by omega, by go_num, by rw [ho.out]; go_num, hL4.out, hX4.out, hC5.out⟩
      case measure => (simp [intOf]; try omega)
    · have hall := cloTo_all g R
      rw [hRl.out] at hall
      rw [hall] at hL
      have ht : R.take k = R := List.take_of_length_le (by have := hRl.out; omega)
      rw [ht]
      replace hL := Lib.hid hL
      replace hC := Lib.hid hC
      clear hX hall ht
      go_wp2_with fail
      go_ret
      exact ⟨rfl, hL.out, hC.out⟩
end
end Go.Proofs.YtefippjakkgjkaaDoor.K

/- The walks of package calls: front, Done. -/
namespace Go.Proofs.YtefippjakkgjkaaDoor.K
open Go.RowKit Go.Shelf
attribute [local go_sem] Oper.semAt_some

/-- Is it done? -/
def dnB (g : Int) (c : Cl) : Bool := decide (c.2 ≠ 0) && decide (c.2 ≤ g)
def dnL (g : Int) (xs : List Cl) : List Cl := xs.takeWhile (dnB g)
def lfL (g : Int) (xs : List Cl) : List Cl := xs.dropWhile (dnB g)
theorem dn_lf (g : Int) (xs : List Cl) : dnL g xs ++ lfL g xs = xs := List.takeWhile_append_dropWhile
theorem dn_drop (g : Int) (xs : List Cl) (k : Nat) (hk : k < (dnL g xs).length) : ∃ c, (dnL g xs)[k]? = some c ∧ xs.drop k = c :: xs.drop (k + 1) ∧ c.2 ≠ 0 ∧ c.2 ≤ g := by
  have h1 : xs[k]? = some ((dnL g xs)[k]) := by
    conv => lhs; rw [← dn_lf g xs]
    rw [List.getElem?_append_left hk, List.getElem?_eq_getElem hk]
  obtain ⟨hx, hx2⟩ := List.getElem?_eq_some_iff.1 h1
  refine ⟨(dnL g xs)[k], List.getElem?_eq_getElem hk, by rw [List.drop_eq_getElem_cons hx, hx2], ?_⟩
  have h2 : dnB g (dnL g xs)[k] = true := by
    have := List.all_takeWhile (p := dnB g) (l := xs)
    exact List.all_eq_true.1 this _ (List.getElem_mem hk)
  simpa [dnB] using h2
theorem dn_end (g : Int) (xs : List Cl) : xs.drop (dnL g xs).length = lfL g xs := by
  conv => lhs; arg 2; rw [← dn_lf g xs]
  rw [List.drop_left]
theorem lf_head (g : Int) (xs : List Cl) : lfL g xs = [] ∨ ∃ c t, lfL g xs = c :: t ∧ (c.2 = 0 ∨ (c.2 ≠ 0 ∧ g < c.2)) := by
  unfold lfL
  induction xs with
  | nil => exact .inl rfl
  | cons c t ih =>
    rw [List.dropWhile_cons]
    split
    · exact ih
    · rename_i h
      refine .inr ⟨c, t, rfl, ?_⟩
      simp only [dnB, Bool.and_eq_true, decide_eq_true_eq, not_and] at h
      by_cases h0 : c.2 = 0
      · exact .inl h0
      · exact .inr ⟨h0, by have := h h0; omega⟩
/-- How many a ring at p holds, read off the world. -/
def ringN (p : Nat) (w : World) : Nat := match w.cell? ⟨p, 2, none⟩ with | some (.int _ n) => n.toNat | _ => 0
theorem ringN_eq {w : World} {p b room hd : Nat} {xs : List Cl} (h : RingAt w p b room hd xs) : ringN p w = xs.length := by
  have := h.hdr.cell 2 (by simp)
  simp only [List.getElem_cons_zero, List.getElem_cons_succ] at this
  unfold ringN; rw [this]; simp
def FrK (B1 B2 p b k : Nat) : Prop := k = B1 ∨ k = B2 ∨ k = p ∨ k = b
set_option maxRecDepth 100000 in
set_option maxHeartbeats 2000000 in
/-- **front's function.** -/
theorem front1_in (l B1 B2 p b hd : Nat) (xs : List Cl) (g : Int) (J Jx : List Cl → World → Prop) (W : World)
    (hJT : ∀ pre A B, J pre A → Chg (fun k => k = p ∨ k = b) A B → J pre B)
    (hY : ∀ pre x W1, J pre W1 → pre.length < (dnL g xs).length → YieldAt Fence.wide 7 Tryd.prog l #[.agg #[.int .i64 x.1, .int .i64 x.2]] W1 fun e W' =>
      (e = .returned (.bool true) ∧ J (pre ++ [x]) W' ∧ KeepK (FrK B1 B2 p b) W1 W') ∨ (e = .returned (.bool false) ∧ Jx (pre ++ [x]) W'))
    (hB1 : Boxed W B1 110 (.pointer (some ⟨p, 0, none⟩))) (hB2 : Boxed W B2 3 (.int .i64 g)) (hn1 : B1 ≠ p ∧ B1 ≠ b) (hn2 : B2 ≠ p ∧ B2 ≠ b) (hR : RingAt W p b 64 hd xs) (h0 : J [] W) :
    CallsIn Fence.wide 8 Tryd.prog 91 #[.func (.yield l) #[] #[], .pointer (some ⟨B1, 0, none⟩), .pointer (some ⟨B2, 0, none⟩)] W fun e W' => (∃ v, e = .returned v) ∧
      ((J (dnL g xs) W' ∧ ∃ hd, RingAt W' p b 64 hd (lfL g xs)) ∨ (∃ pre, pre <+: dnL g xs ∧ Jx pre W')) := by
  replace hY := Lib.hid hY
  replace hJT := Lib.hid hJT
  refine callsIn_of_wp Tryd.func91 rfl trivial ?_ rfl
  simp only [Tryd.ntmps91, List.size_toArray, List.length_cons, List.length_nil, Nat.reduceAdd, Nat.reduceSub, Array.replicate_succ, Array.replicate_zero, List.push_toArray, List.append_toArray, List.nil_append, List.cons_append]
  gi_wp2_with fail
  gi_loopw [] (fun wr => ∃ k hd, k ≤ (dnL g xs).length ∧ J ((dnL g xs).take k) wr ∧ RingAt wr p b 64 hd (xs.drop k) ∧ Boxed wr B1 110 (.pointer (some ⟨p, 0, none⟩)) ∧ Boxed wr B2 3 (.int .i64 g)) (fun wr => ringN p wr)
  case atStart => exact ⟨0, hd, Nat.zero_le _, by rw [List.take_zero]; exact h0, by rw [List.drop_zero]; exact hR, hB1, hB2⟩
  case round =>
    clear hR hB1 hB2 h0
    obtain ⟨k, hd, hk, hJ, hR, hB1, hB2⟩ := hrel
    have hmeas := ringN_eq hR
    have c1 := hB1.cell
    have hkl : k < (dnL g xs).length ∨ k = (dnL g xs).length := by omega
    rcases hkl with hlt | rfl
    · obtain ⟨c, hc, hdr, hc0, hcg⟩ := dn_drop g xs k hlt
      rw [hdr] at hR
      have htk : (dnL g xs).take (k + 1) = (dnL g xs).take k ++ [c] := by
        obtain ⟨h1, h2⟩ := List.getElem?_eq_some_iff.1 hc
        rw [List.take_succ_eq_append_getElem h1, h2]
      have hpr : (dnL g xs).take (k + 1) <+: dnL g xs := List.take_prefix _ _
      rw [htk] at hpr
      have hat := at_yes 0 hR (x := c) rfl
      rw [show ((0 : Nat) : Int) = 0 from rfl] at hat
      have hpop := fun (W : World) (h : RingAt W p b 64 hd (c :: xs.drop (k + 1))) => pop_yes h
      have hy0 := fun (W : World) (h : Chg (fun k => k = p ∨ k = b) wr W) => hY.out ((dnL g xs).take k) c W (hJT.out _ _ _ hJ h) (by rw [List.length_take]; omega)
      have hlr := hR.lt
      have hlen : (xs.drop (k + 1)).length + 1 = ringN p wr := by rw [hmeas, hdr]; rfl
      obtain ⟨c1', c2'⟩ := c
      have e1 : (c2' == 0) = false := by simpa using hc0
      have e2 : decide (g < c2') = false := by simp only at hcg; simp; omega
      replace hc0 := Lib.hid hc0
      replace hcg := Lib.hid hcg
      replace hpr := Lib.hid hpr
      replace htk := Lib.hid htk
      replace hat := Lib.hid hat
      replace hpop := Lib.hid hpop
      replace hy0 := Lib.hid hy0
      replace hlen := Lib.hid hlen
      replace hR := Lib.hid hR
      replace hB1 := Lib.hid hB1
      replace hB2 := Lib.hid hB2
      clear hJ hmeas hdr hc
      gi_wp2_with fail
      refine ⟨trivial, (callsIn_wide.2 hat.out).mono ?_⟩
      rintro e W2 ⟨rfl, hK2⟩
      obtain ⟨B4, hB4⟩ : ∃ B4, B4 = W2.heap.size := ⟨_, rfl⟩
      have hR3 := (hR.out.keeps hK2).keeps (Keeps.alloc W2 (.cells #[.int .i64 c1', .int .i64 c2'] 114))
      have hpop3 := hpop.out _ hR3
      have g2 := (Blk.keeps (cs := [Value.int .i64 g]) hB2.out hK2).cell 0 (by simp)
      have g1 := (Blk.keeps (cs := [Value.pointer (some ⟨p, 0, none⟩)]) hB1.out hK2).cell 0 (by simp)
      simp only [List.getElem_cons_zero] at g1 g2
      have l1 := cell_lt g1
      have l2 := cell_lt g2
      simp only at l1 l2
      have hCq : Chg (fun k => k = p ∨ k = b) wr (W2.alloc (.cells #[.int .i64 c1', .int .i64 c2'] 114)) := Chg.of_keeps (Keeps.trans hK2 (Keeps.alloc _ _))
      have hx3 := Blk.new W2 114 [.int .i64 c1', .int .i64 c2']
      have hne4 : ¬ (W2.heap.size = p ∨ W2.heap.size = b) := by have := hK2.size; omega
      replace hpop3 := Lib.hid hpop3
      replace hCq := Lib.hid hCq
      replace hx3 := Lib.hid hx3
      replace hB4 := Lib.hid hB4
      clear hpop hat hR hR3 hK2 c1
      gi_wp2_with fail
      refine ⟨trivial, (callsIn_wide.2 hpop3.out).mono ?_⟩
      rintro e W4 ⟨rfl, hR4, hC4⟩
      have hx4 := hx3.out.chg hC4 hne4
      have x0 := hx4.cell 0 (by simp)
      have x1 := hx4.cell 1 (by simp)
      simp only [List.getElem_cons_zero, List.getElem_cons_succ] at x0 x1
      obtain ⟨fn, tmps, assign, body, hy, hRd⟩ := hy0.out W4 (hCq.out.trans hC4)
      have hB1' := boxed_chg hB1.out (hCq.out.trans hC4) (by omega)
      have hB2' := boxed_chg hB2.out (hCq.out.trans hC4) (by omega)
      replace hRd := Lib.hid hRd
      replace hR4 := Lib.hid hR4
      replace hB1' := Lib.hid hB1'
      replace hB2' := Lib.hid hB2'
      clear hx4 hx3 hC4 hCq hpop3 hy0 g1 g2 hB1 hB2
      gi_wp2_with fail
      refine hRd.out.mono ?_
      rintro e W5 (⟨rfl, hJ5, hk5⟩ | ⟨rfl, hJx5⟩)
      · have hR5 : RingAt W5 p b 64 ((hd + 1) % 64) (xs.drop (k + 1)) := by
          have h := hR4.out
          exact ⟨h.ne, hk5.blk h.hdr (.inr (.inr (.inl rfl))), by obtain ⟨els, h1, h2⟩ := h.buf; exact ⟨els, hk5.blk h1 (.inr (.inr (.inr rfl))), h2⟩, h.hdlt, h.len, h.lo, h.hi⟩
        have hB15 := hk5.boxed hB1'.out (.inl rfl)
        have hB25 := hk5.boxed hB2'.out (.inr (.inl rfl))
        have hm5 := ringN_eq hR5
        replace hR5 := Lib.hid hR5
        replace hB15 := Lib.hid hB15
        replace hB25 := Lib.hid hB25
        replace hm5 := Lib.hid hm5
        replace hJ5 := Lib.hid hJ5
        clear hR4 hB1' hB2' hRd hk5
        gi_wp2_with fail
        go_roundw
        case rel => exact ⟨k + 1, _, by omega, by rw [htk.out]; exact hJ5.out, hR5.out, hB15.out, hB25.out⟩
        case measure => (rw [hm5.out, ← hlen.out]; omega)
      · gi_wp2_with fail
        refine bodyPost_ret (results_none rfl _ _ _) rfl ?_
        exact ⟨⟨_, rfl⟩, .inr ⟨_, hpr.out, hJx5⟩⟩
    · rw [dn_end] at hR
      rw [List.take_of_length_le (Nat.le_refl _)] at hJ
      have hJr := fun (W : World) (h : Chg (fun k => k = p ∨ k = b) wr W) => hJT.out _ _ _ hJ h
      replace hJr := Lib.hid hJr
      have hRk := fun (W : World) (hk : Keeps wr W) => hR.keeps hk
      have cc := hB2.cell
      have lb1 := hB1.lt
      have lb2 := hB2.lt
      rcases lf_head g xs with he | ⟨c, t, he, hcc⟩
      · have hat := at_no (.pointer (some ⟨p, 0, none⟩)) 0 wr (.inr ⟨p, b, 64, hd, _, rfl, hR, .inr (by rw [he]; simp)⟩)
        replace hat := Lib.hid hat
        replace hRk := Lib.hid hRk
        replace he := Lib.hid he
        clear hR hB1 hB2 hmeas hJ
        gi_wp2_with fail
        refine ⟨trivial, (callsIn_wide.2 hat.out).mono ?_⟩
        rintro e W2 ⟨rfl, hK2⟩
        have hK3 := Lib.hid (Keeps.trans hK2 (Keeps.alloc W2 (.cells #[.int .i64 0, .int .i64 0] 114)))
        clear hK2
        gi_wp2_with fail
        refine bodyPost_ret (results_none rfl _ _ _) rfl ?_
        exact ⟨⟨_, rfl⟩, .inl ⟨hJr.out _ (Chg.of_keeps hK3.out), ⟨_, hRk.out _ hK3.out⟩⟩⟩
      · have hat := at_yes 0 hR (x := c) (by rw [he]; rfl)
        rw [show ((0 : Nat) : Int) = 0 from rfl] at hat
        obtain ⟨c1', c2'⟩ := c
        replace hat := Lib.hid hat
        replace hRk := Lib.hid hRk
        replace he := Lib.hid he
        simp only at hcc
        have hc2 : (c2' == 0) = true ∨ ((c2' == 0) = false ∧ decide (g < c2') = true) := by
          rcases hcc with h | ⟨h, h'⟩
          · exact .inl (by simpa using h)
          · exact .inr ⟨by simpa using h, by simpa using h'⟩
        clear hR hmeas hJ hcc
        have hg2 := fun (W : World) (hk : Keeps wr W) => (Blk.keeps (cs := [Value.int .i64 g]) hB2 hk).cell 0 (by simp)
        simp only [List.getElem_cons_zero] at hg2
        replace hg2 := Lib.hid hg2
        clear hB1 hB2
        rcases hc2 with h1 | ⟨h1, h2⟩
        all_goals
          gi_wp2_with fail
          refine ⟨trivial, (callsIn_wide.2 hat.out).mono ?_⟩
          rintro e W2 ⟨rfl, hK2⟩
          have g2 := hg2.out W2 hK2
          have l2 := cell_lt g2
          simp only at l2
          have hK3 := Lib.hid (Keeps.trans hK2 (Keeps.alloc W2 (.cells #[.int .i64 c1', .int .i64 c2'] 114)))
          clear hK2
          gi_wp2_with fail
          refine bodyPost_ret (results_none rfl _ _ _) rfl ?_
          exact ⟨⟨_, rfl⟩, .inl ⟨hJr.out _ (Chg.of_keeps hK3.out), ⟨_, hRk.out _ hK3.out⟩⟩⟩
end Go.Proofs.YtefippjakkgjkaaDoor.K

/- The walks of package calls: Done. -/
namespace Go.Proofs.YtefippjakkgjkaaDoor.K
open Go.RowKit Go.Shelf
attribute [local go_sem] Oper.semAt_some

set_option maxHeartbeats 400000 in
theorem front_any (q0 : Option Addr) (g : Int) (w : World) :
    Calls Tryd.prog 79 #[.pointer q0, .int .i64 g] w fun e w' => e = .returned (.func (.func 91) #[] #[.pointer (some ⟨w.heap.size, 0, none⟩), .pointer (some ⟨w.heap.size + 1, 0, none⟩)]) ∧ (w.alloc (.cells #[.pointer q0] 110)).alloc (.cells #[.int .i64 g] 3) = w' := by
  go_enter Tryd.func79, Tryd.ntmps79
  go_wp2
  go_ret
  exact ⟨rfl, rfl⟩
theorem front_stops (B1 B2 p b hd : Nat) (xs : List Cl) (g : Int) (w : World) (hB1 : Boxed w B1 110 (.pointer (some ⟨p, 0, none⟩))) (hB2 : Boxed w B2 3 (.int .i64 g)) (hn1 : B1 ≠ p ∧ B1 ≠ b) (hn2 : B2 ≠ p ∧ B2 ≠ b) (hR : RingAt w p b 64 hd xs) :
    SeqStopsT (fun k => k = p ∨ k = b) (fun W => ∃ hd, RingAt W p b 64 hd (lfL g xs)) Tryd.prog 91 #[.pointer (some ⟨B1, 0, none⟩), .pointer (some ⟨B2, 0, none⟩)] (fun x : Cl => #[.agg #[.int .i64 x.1, .int .i64 x.2]]) (KeepK (FrK B1 B2 p b)) (dnL g xs) w := fun l J Jx W hW hJT hY h0 =>
  front1_in l B1 B2 p b hd xs g J Jx W hJT hY ((hW.block B1 hB1.lt).trans hB1) ((hW.block B2 hB2.lt).trans hB2) hn1 hn2 (hR.keeps hW) h0
section
variable {w : World} {p rb cap n : Nat} {pp bb : Nat → Nat} {last : Int} {R : List (List Cl)}
theorem infoIntC : (Tryd.prog.info? 3).map (fun i => (i.zero, i.size, i.bytes)) = some (some (.int .i64 0), 1, 8) := by kernel_rfl
/-- The callbacks that are told, of the first k rings; the rings that are left. -/
def tellL (g : Int) (R : List (List Cl)) : List Int := (R.map fun xs => (dnL g xs).map (·.1)).flatten
def lfTo (g : Int) (R : List (List Cl)) (k : Nat) : List (List Cl) := (R.take k).map (lfL g) ++ R.drop k
set_option maxHeartbeats 400000 in
theorem ldone_nil (g : Int) (w : World) : Calls Tryd.prog 65 #[.pointer none, .int .i64 g] w fun e w' => e = .returned (.slice none 0 0) ∧ w = w' := by
  go_enter Tryd.func65, Tryd.ntmps65
  go_wp2
  go_ret
  exact ⟨rfl, rfl⟩
theorem ringStays (B p b room : Nat) (xs : List Cl) : Stays B (fun W => ∃ hd, RingAt W p b room hd xs) := by
  rintro W W' row ⟨hd, h⟩ hg hr
  obtain ⟨els, h1, h2⟩ := h.buf
  exact ⟨hd, h.ne, Stays.blk B p _ _ W W' row h.hdr hg hr, ⟨els, Stays.blk B b _ _ W W' row h1 hg hr, h2⟩, h.hdlt, h.len, h.lo, h.hi⟩
theorem chgStays (S : Nat → Prop) (B : Nat) (W0 : World) (hB : ∀ k, k < W0.heap.size → B ≤ k → S k) : Stays B (fun W => Chg S W0 W) := fun W W' row hs hg hr =>
  ⟨hg.os.trans hs.os, hg.tape.trans hs.tape, hg.output.trans hs.output, Nat.le_trans hs.size hg.size, fun k hk hn => by
    rw [hg.block k (Nat.lt_of_lt_of_le hk hs.size) (fun e => ?_)]
    · exact hs.block k hk hn
    · obtain ⟨h1, _⟩ := hr k e.symm
      exact hn (hB k hk h1)⟩
theorem markStays (B D : Nat) (hD : D < B) : Stays B (fun W => W.heap[D]? = some (.deferred (some []))) := fun W W' row hs hg hr =>
  (hg.block D (Array.getElem?_eq_some_iff.1 hs).1 (fun e => by obtain ⟨h1, _⟩ := hr D e.symm; omega)).trans hs
/-- One ring has turned, and whatever is none of ours. -/
theorem ListsAt.set' (h : ListsAt w p rb cap n pp bb last R) {w' : World} {S : Nat → Prop} {i hd : Nat} (hi : i < n) {x : List Cl} (hR : RingAt w' (pp i) (bb i) 64 hd x) (hc : Chg S w w') (hS : ∀ k, S k → k = pp i ∨ k = bb i ∨ ¬ Foot p rb n pp bb k) : ListsAt w' p rb cap n pp bb last (R.set i x) := by
  have hf := h.far i hi
  have no : ∀ k, Foot p rb n pp bb k → k ≠ pp i → k ≠ bb i → ¬ S k := fun k hk h1 h2 hs => by
    rcases hS k hs with h3 | h3 | h3
    · exact h1 h3
    · exact h2 h3
    · exact h3 hk
  refine ⟨h.hdr.chg hc (no p (.inl rfl) hf.1.symm hf.2.1.symm), ?_, h.hn, h.hcap, by rw [List.length_set]; exact h.len, fun j hj => ?_, h.ne, h.far, h.apart, h.n64⟩
  · obtain ⟨cs, h1, h2⟩ := h.tab
    exact ⟨cs, h1.chg hc (no rb (.inr (.inl rfl)) hf.2.2.1.symm hf.2.2.2.symm), h2⟩
  · by_cases e : i = j
    · subst e
      refine ⟨hd, ?_⟩
      rw [show (R.set i x).getD i [] = x by simp [List.getD, h.len, hi]]
      exact hR
    · obtain ⟨hd', hR'⟩ := h.ring j hj
      refine ⟨hd', ?_⟩
      rw [show (R.set i x).getD j [] = R.getD j [] by simp [List.getD, e]]
      have h1 := h.apart i j hi hj e
      have h2 := h.apart j i hj hi (Ne.symm e)
      exact hR'.chg hc (no _ (.inr (.inr ⟨j, hj, .inl rfl⟩)) (by omega) (by omega)) (no _ (.inr (.inr ⟨j, hj, .inr rfl⟩)) (by omega) (by omega))
theorem lfTo_zero (g : Int) (R : List (List Cl)) : lfTo g R 0 = R := by simp [lfTo]
theorem lfTo_all (g : Int) (R : List (List Cl)) : lfTo g R R.length = R.map (lfL g) := by simp [lfTo]
theorem lfTo_get (g : Int) (R : List (List Cl)) (k : Nat) (h : k < R.length) : (lfTo g R k).getD k [] = R.getD k [] := by
  unfold lfTo
  rw [List.getD, List.getElem?_append_right (by simp; omega), List.getElem?_drop]
  simp [List.getD, Nat.min_eq_left (Nat.le_of_lt h)]
theorem lfTo_set (g : Int) (R : List (List Cl)) (k : Nat) (h : k < R.length) : (lfTo g R k).set k (lfL g (R.getD k [])) = lfTo g R (k + 1) := by
  unfold lfTo
  have e : k - ((R.take k).map (lfL g)).length = 0 := by simp; omega
  rw [show R.getD k [] = R[k] by simp [List.getD, h], List.set_append_right _ _ (by simp; omega), e, List.drop_eq_getElem_cons h, List.set_cons_zero, List.take_succ_eq_append_getElem h, List.map_append, List.append_assoc]
  rfl
theorem tell_succ (g : Int) (R : List (List Cl)) (k : Nat) (h : k < R.length) : tellL g (R.take (k + 1)) = tellL g (R.take k) ++ (dnL g (R.getD k [])).map (·.1) := by
  unfold tellL
  rw [show R.getD k [] = R[k] by simp [List.getD, h], List.take_succ_eq_append_getElem h, List.map_append, List.flatten_append]
  simp
theorem tell_le (g : Int) (R : List (List Cl)) (h : ∀ i, i < R.length → (R.getD i []).length ≤ 64) (k : Nat) (hk : k ≤ R.length) : (tellL g (R.take k)).length ≤ 64 * k := by
  induction k with
  | zero => simp [tellL]
  | succ k ih =>
    have h1 := ih (by omega)
    have h2 := h k (by omega)
    have h3 : (dnL g (R.getD k [])).length ≤ (R.getD k []).length := (List.takeWhile_prefix _).length_le
    rw [tell_succ g R k (by omega), List.length_append, List.length_map]
    omega
set_option maxRecDepth 100000 in
set_option maxHeartbeats 2000000 in
theorem ldone_any (h : ListsAt w p rb cap n pp bb last R) (g : Int) :
    Calls Tryd.prog 65 #[.pointer (some ⟨p, 0, none⟩), .int .i64 g] w fun e w' => ∃ v, e = .returned v ∧ w'.ownsRow w.heap.size 3 1 v (tellL g R).length ((tellL g R).map (Value.int .i64)) ∧
      ListsAt w' p rb cap n pp bb last (R.map (lfL g)) ∧ Chg (Foot p rb n pp bb) w w' := by
  have c0 := h.c0
  have hpl := h.hdr.lt
  have hfl := h.foot_lt
  have hnc := h.hn
  have hncap := h.hcap
  have hRl := h.len
  have hn64 := h.n64
  unfold maxLen at hncap
  have hr64 : ∀ i, i < R.length → (R.getD i []).length ≤ 64 := fun i hi => by obtain ⟨hd, hR⟩ := h.ring i (by omega); exact hR.len
  have hL0 := h.keeps (Keeps.alloc w (.cells #[.slice none 0 0] 38))
  refine (callsIn_wide (n := 9)).1 ?_
  refine callsIn_of_wp_marks Tryd.func65 rfl trivial ?_ rfl
  simp only [Tryd.ntmps65, List.size_toArray, List.length_cons, List.length_nil, Nat.reduceAdd, Nat.reduceSub, Array.replicate_succ, Array.replicate_zero, List.push_toArray, List.append_toArray, List.nil_append, List.cons_append]
  have bO := Boxed.new w 38 (.slice none 0 0)
  replace hfl := Lib.hid hfl
  replace hRl := Lib.hid hRl
  replace hr64 := Lib.hid hr64
  replace hL0 := Lib.hid hL0
  replace bO := Lib.hid bO
  clear h
  gi_wp2_with fail
  refine wpIn_loop (fun a' W => ∃ (k : Nat) (Ds : List Nat) (u7 u17 u18 u19 u20 u21 u22 u29 v : Value), a' = { tmps := #[.pointer (some ⟨p, 0, none⟩), .int .i64 g, undef, undef, .slice none 0 0, .pointer (some ⟨w.heap.size, 0, none⟩), undef, u7, undef, .pointer (some ⟨p, 0, none⟩), .bool false, .pointer (some ⟨p, 0, none⟩), .pointer (some ⟨p, 0, none⟩), .pointer (some ⟨p, 0, none⟩), .slice (some ⟨rb, 0, none⟩) n cap, .int .i64 n, .int .i64 k, u17, u18, u19, u20, u21, u22, undef, undef, undef, undef, undef, undef, u29, undef], defers := marksOf Ds } ∧
      k ≤ n ∧ Ds.Nodup ∧ (∀ D ∈ Ds, w.heap.size < D ∧ W.heap[D]? = some (.deferred (some []))) ∧ Boxed W w.heap.size 38 v ∧ W.ownsRow (w.heap.size + 1) 3 1 v (tellL g (R.take k)).length ((tellL g (R.take k)).map (Value.int .i64)) ∧ ListsAt W p rb cap n pp bb last (lfTo g R k) ∧ Chg (Foot p rb n pp bb) w W)
    (fun a' _ => n - (intOf (a'.tmps.getD 16 undef)).toNat) ?start ?round
  case start =>
    refine ⟨0, [], _, _, _, _, _, _, _, _, _, rfl, Nat.zero_le _, List.nodup_nil, ?_, bO.out, World.ownsRow_nil _ _ _ _, ?_, Chg.of_keeps (Keeps.alloc _ _)⟩
    · intro D hD; cases hD
    · rw [lfTo_zero]; exact hL0.out
  case round =>
    clear bO hL0 c0
    rintro _ W ⟨k, Ds, u7, u17, u18, u19, u20, u21, u22, u29, v, rfl, hk, hnd, hDs, hv, hrow, hL, hC⟩
    have hkn : k < n ∨ k = n := by omega
    rcases hkn with hlt | rfl
    · have hltI := Int.ofNat_lt.2 hlt
      have hRk : k < R.length := by have := hRl.out; omega
      have cp := hL.ptr k hlt
      have hLl := hL.foot_lt
      obtain ⟨hd, hR⟩ := hL.ring k hlt
      rw [lfTo_get g R k hRk] at hR
      have hfr := fun (W : World) => front_any (some ⟨pp k, 0, none⟩) g W
      replace hfr := Lib.hid hfr
      replace hL := Lib.hid hL
      replace hC := Lib.hid hC
      replace hv := Lib.hid hv
      replace hrow := Lib.hid hrow
      replace hDs := Lib.hid hDs
      replace hR := Lib.hid hR
      replace hLl := Lib.hid hLl
      gi_wp2_with (refine ⟨trivial, ?_⟩; gi_at_call 79; refine (callsIn_wide.2 (hfr.out _)).mono ?_; rintro e w' ⟨rfl, rfl⟩)
      obtain ⟨Wl, hWl⟩ : ∃ Wl, Wl = (W.alloc (.cells #[.pointer (some ⟨pp k, 0, none⟩)] 110)).alloc (.cells #[.int .i64 g] 3) := ⟨_, rfl⟩
      have hKl : Keeps W Wl := by rw [hWl]; exact Keeps.trans (Keeps.alloc _ _) (Keeps.alloc _ _)
      have hWs : Wl.heap.size = W.heap.size + 2 := by rw [hWl]; simp
      have bR : Boxed Wl W.heap.size 110 (.pointer (some ⟨pp k, 0, none⟩)) := by rw [hWl]; exact (Boxed.new W _ _).alloc _
      have bG : Boxed Wl (W.heap.size + 1) 3 (.int .i64 g) := by rw [hWl]; have := Boxed.new (W.alloc (.cells #[.pointer (some ⟨pp k, 0, none⟩)] 110)) 3 (.int .i64 g); rwa [World.size_alloc] at this
      rw [← hWl]
      have hf1 := hfl.out (pp k) (.inr (.inr ⟨k, hlt, .inl rfl⟩))
      have hf2 := hfl.out (bb k) (.inr (.inr ⟨k, hlt, .inr rfl⟩))
      have hws := hC.out.size
      have hvl := hv.out.lt
      have hdl : (dnL g (R.getD k [])).length ≤ 64 := Nat.le_trans (List.takeWhile_prefix _).length_le (hr64.out k hRk)
      have htl := tell_le g R hr64.out k (by omega)
      have hts := tell_succ g R k hRk
      generalize hT : tellL g (R.take k) = TT at *
      generalize hX : R.getD k [] = X at *
      refine iter_ruleT (fun j => j = pp k ∨ j = bb k) (fun j hj => by omega) (KeepK (FrK W.heap.size (W.heap.size + 1) (pp k) (bb k))) KeepK.trans (fun W l o o' _ hl hc => KeepK.putObj o' hl hc) (gf := 91) (lb := #[.pointer (some ⟨W.heap.size, 0, none⟩), .pointer (some ⟨W.heap.size + 1, 0, none⟩)]) rfl (enters_of Tryd.func91 (by kernel_rfl) rfl)
        (fun W => ∃ hd, RingAt W (pp k) (bb k) 64 hd (lfL g X)) (ringStays _ _ _ _ _) (front_stops W.heap.size (W.heap.size + 1) (pp k) (bb k) hd X g Wl bR bG (by omega) (by omega) (hR.out.keeps hKl)) (Below.refl _ _) (fun _ => rfl)
        (fun pre W2 => ∃ v2, Boxed W2 w.heap.size 38 v2 ∧ W2.ownsRow (w.heap.size + 1) 3 1 v2 (TT.length + pre.length) ((TT ++ pre.map (·.1)).map (Value.int .i64)) ∧ (∀ r, v2.ownBlock = some r → r ≠ W.heap.size ∧ r ≠ W.heap.size + 1) ∧ (∀ D ∈ Ds, W2.heap[D]? = some (.deferred (some []))) ∧ Chg (fun j => j = pp k ∨ j = bb k ∨ w.heap.size ≤ j) W W2 ∧ Wl.heap.size ≤ W2.heap.size)
        (fun _ _ _ => False)
        (fun pre => Stays.ex fun v2 => (Stays.boxed _ _ _ _).and (Stays.row.and ((Stays.pure _ _).and (Stays.and ?marks ((chgStays _ _ _ fun j hj hb => .inr (.inr (by omega))).and (Stays.size _ _))))))
        ?iT (fun c pre => Stays.pure _ _) ?i0
        (fun x a' W2 => ∃ B, Wl.heap.size ≤ B ∧ Blk W2 B 114 (xc x) ∧ a' = { tmps := #[.pointer (some ⟨p, 0, none⟩), .int .i64 g, undef, undef, .slice none 0 0, .pointer (some ⟨w.heap.size, 0, none⟩), undef, .pointer (some ⟨pp k, 0, none⟩), .pointer (some ⟨B, 0, none⟩), .pointer (some ⟨p, 0, none⟩), .bool false, .pointer (some ⟨p, 0, none⟩), .pointer (some ⟨p, 0, none⟩), .pointer (some ⟨p, 0, none⟩), .slice (some ⟨rb, 0, none⟩) n cap, .int .i64 n, .int .i64 k, .bool true, .pointer (some ⟨rb, k, none⟩), .pointer (some ⟨pp k, 0, none⟩), .pointer (some ⟨pp k, 0, none⟩), .int .i64 g, .func (.func 91) #[] #[.pointer (some ⟨W.heap.size, 0, none⟩), .pointer (some ⟨W.heap.size + 1, 0, none⟩)], .agg #[.int .i64 x.1, .int .i64 x.2], undef, undef, undef, undef, undef, u29, undef], defers := [] })
        (fun x a' => Stays.ex fun B => (Stays.pure _ _).and ((Stays.blk _ _ _ _).and (Stays.pure _ _)))
        ?assign ?body ?done ?stop
      case marks =>
        intro W2 W3 row hs hg hr D hD
        exact markStays Wl.heap.size D (by have := (Array.getElem?_eq_some_iff.1 (hDs.out D hD).2).1; omega) W2 W3 row (hs D hD) hg hr
      case iT =>
        rintro pre A B ⟨v2, h1, h2, h3, h4, h5, h6⟩ hc
        refine ⟨v2, boxed_chg h1 hc (by omega), ?_, h3, fun D hD => chg_heap (n := w.heap.size) hc (fun j hj => by omega) (by have := (hDs.out D hD).1; omega) (h4 D hD), h5.trans (hc.mono fun j _ hj => by rcases hj with h | h; exact .inl h; exact .inr (.inl h)), Nat.le_trans h6 hc.size⟩
        refine ⟨h2.1, ?_⟩
        rcases h2.2 with h0 | ⟨g', cap', cur, hv', hb', hg', hr'⟩
        · exact .inl h0
        · exact .inr ⟨g', cap', cur, hv', hb', (hc.block g' ((Array.getElem?_eq_some_iff.1 hg').1) (by omega)).trans hg', hr'⟩
      case i0 =>
        have hrl : Wl.ownsRow (w.heap.size + 1) 3 1 v TT.length (TT.map (Value.int .i64)) := by
          refine ⟨hrow.out.1, ?_⟩
          rcases hrow.out.2 with h0 | ⟨g', cap', cur, hv', hb', hg', hr'⟩
          · exact .inl h0
          · exact .inr ⟨g', cap', cur, hv', hb', (hKl.block g' ((Array.getElem?_eq_some_iff.1 hg').1)).trans hg', hr'⟩
        refine ⟨v, (Blk.keeps (cs := [v]) hv.out hKl), by simpa using hrl, fun r hr => ?_, fun D hD => ?_, Chg.of_keeps hKl, Nat.le_refl _⟩
        · have := (row_own hrow.out r hr).2; omega
        · have := (hDs.out D hD).2
          rw [hKl.block D (Array.getElem?_eq_some_iff.1 this).1]; exact this
      case assign =>
        rintro l pre x W2 K ⟨v2, h1, h2, h3, h4, h5, h6⟩ hK
        have hk2 : Keeps W2 (W2.alloc (.cells (xc x).toArray 114)) := Keeps.alloc _ _
        gi_wp2
        refine hK _ _ (keepsFrom_keeps hk2) (KeepK.of_keeps hk2) ⟨v2, h1.alloc _, h2.alloc _, h3, fun D hD => ?_, h5.trans (Chg.of_keeps hk2), by simp; omega⟩ ⟨W2.heap.size, h6, Blk.new _ _ _, rfl⟩
        have := h4 D hD
        exact (hk2.block D (Array.getElem?_eq_some_iff.1 this).1).trans this
      case body =>
        rintro l pre x a' W2 hlt2 ⟨v2, h1, h2, h3, h4, h5, h6⟩ ⟨B, hBB, hBx, rfl⟩
        have hc := h1.cell
        have x0 := hBx.cell 0 (by simp [xc])
        simp only [xc, List.getElem_cons_zero] at x0
        have hpl2 : pre.length < 64 := by omega
        have hsz2 : w.heap.size + 1 ≤ W2.heap.size := by have := h1.lt; omega
        gi_wp2_with (gi_at_builtin; refine app1InL rfl _ _ 38 3 (.int .i64 0) 8 rfl Tryd.underlying38 infoIntC rfl (w.heap.size + 1) _ _ _ rfl h2 _ rfl rfl (by unfold maxLen; omega) (by omega) hsz2 ?_)
        intro g2 cap2 W3 hrow2 hgrow hbel hat
        have hne : v2.ownBlock ≠ some w.heap.size := fun e => by have := (row_own h2 _ e).1; omega
        have hv3 : Boxed W3 w.heap.size 38 v2 := (h1.alloc _).kept hgrow (fun e => hne e.symm)
        have hc3 := hv3.cell
        have hf3 := hv3.frozen
        obtain ⟨W4, hW4⟩ : ∃ W4, W4 = W3.setCell ⟨w.heap.size, 0, none⟩ (.slice (some ⟨g2, 0, none⟩) (TT.length + pre.length + 1) cap2) := ⟨_, rfl⟩
        have hko : KeepsOthers W2 W4 := by rw [hW4]; exact keepsOthers_app1 h2 hgrow _ _
        have hC3 : Chg (fun j => v2.ownBlock = some j ∨ j = w.heap.size) W2 W4 := by
          rw [hW4]
          exact Chg.trans (S := fun j => v2.ownBlock = some j ∨ j = w.heap.size) ⟨hgrow.os, hgrow.tape, hgrow.output, Nat.le_trans (by simp) hgrow.size, fun i hi hn => (hgrow.block i (by simp; omega) (fun e => hn (.inl e.symm))).trans (Below.heap_alloc _ _ _ hi)⟩ (Chg.setCell _ _ (.inr rfl))
        have hown1 := fun r hr => row_own h2 r hr
        have hKK : KeepK (FrK W.heap.size (W.heap.size + 1) (pp k) (bb k)) W2 W4 := KeepK.of_chg hC3 (fun j hj hs => by
          rcases hs with hs | hs
          · have a1 := h3 j hs
            have a2 := (hown1 j hs).1
            rcases hj with h | h | h | h <;> omega
          · rcases hj with h | h | h | h <;> omega)
        have hrow4 : W4.ownsRow (w.heap.size + 1) 3 1 (.slice (some ⟨g2, 0, none⟩) (TT.length + pre.length + 1) cap2) (TT.length + (pre ++ [x]).length) ((TT ++ (pre ++ [x]).map (·.1)).map (Value.int .i64)) := by
          have hC4 : Chg (· = w.heap.size) W3 W4 := by rw [hW4]; exact Chg.setCell _ _ rfl
          have e1 : (TT ++ (pre ++ [x]).map (·.1)).map (Value.int .i64) = TT.map (Value.int .i64) ++ (pre.map (Value.int .i64 ∘ fun x => x.1) ++ [.int .i64 x.1]) := by simp
          rw [e1, List.length_append, List.length_singleton, ← Nat.add_assoc]
          refine ⟨hrow2.1, ?_⟩
          rcases hrow2.2 with ⟨e, _⟩ | ⟨g', cap', cur, e, hb', hg', hr'⟩
          · cases e
          · exact .inr ⟨g', cap', cur, e, hb', (hC4.block g' ((Array.getElem?_eq_some_iff.1 hg').1) (by omega)).trans hg', hr'⟩
        have hv4 : Boxed W4 w.heap.size 38 (.slice (some ⟨g2, 0, none⟩) (TT.length + pre.length + 1) cap2) := by rw [hW4]; exact hv3.set _
        have hr4 : ∀ r, (Value.slice (some ⟨g2, 0, none⟩) (TT.length + pre.length + 1) cap2).ownBlock = some r → r ≠ W.heap.size ∧ r ≠ W.heap.size + 1 := fun r hr => by
          obtain rfl : g2 = r := by simpa [Value.ownBlock] using hr
          rcases hat with h | h
          · exact h3 _ h
          · omega
        have hD4 : ∀ D ∈ Ds, W4.heap[D]? = some (.deferred (some [])) := fun D hD => hko.same D _ (h4 D hD) rfl
        have hC5 : Chg (fun j => j = pp k ∨ j = bb k ∨ w.heap.size ≤ j) W W4 := h5.trans (hC3.mono fun j _ hj => by
          rcases hj with h | h
          · have := (hown1 j h).1; exact .inr (.inr (by omega))
          · exact .inr (.inr (by omega)))
        have hs4 : Wl.heap.size ≤ W4.heap.size := Nat.le_trans h6 hC3.size
        replace hW4 := Lib.hid hW4
        replace hko := Lib.hid hko
        replace hKK := Lib.hid hKK
        replace hrow4 := Lib.hid hrow4
        replace hv4 := Lib.hid hv4
        replace hr4 := Lib.hid hr4
        replace hD4 := Lib.hid hD4
        replace hC5 := Lib.hid hC5
        clear hrow2 hgrow hbel hat hC3 h1 h2 h3 h4 h5 hown1 hc x0
        gi_wp2
        rw [← hW4.out]
        exact ⟨hko.out.from _, hKK.out, _, hv4.out, hrow4.out, hr4.out, hD4.out, hC5.out, hs4⟩
      case done =>
        rintro D W2 hD ⟨v2, h1, h2, h3, h4, h5, h6⟩ ⟨hd2, hR2⟩ hKD
        have hL2 := ListsAt.set' hL.out hlt hR2 h5 (fun j hj => by
          rcases hj with h | h | h
          · exact .inl h
          · exact .inr (.inl h)
          · exact .inr (.inr fun hf => by have := hfl.out j hf; omega))
        rw [← hX, lfTo_set g R k hRk] at hL2
        have hC2 : Chg (Foot p rb n pp bb) w W2 := ⟨h5.os.trans hC.out.os, h5.tape.trans hC.out.tape, h5.output.trans hC.out.output, Nat.le_trans hC.out.size h5.size, fun j hj hn => by
          rw [h5.block j (by omega) (by rintro (h | h | h); exact hn (.inr (.inr ⟨k, hlt, .inl h⟩)); exact hn (.inr (.inr ⟨k, hlt, .inr h⟩)); omega)]
          exact hC.out.block j hj hn⟩
        rw [show TT.length + (dnL g X).length = (TT ++ (dnL g X).map (·.1)).length by simp, ← hts] at h2
        have hnd2 : (D :: Ds).Nodup := List.nodup_cons.2 ⟨fun hm => by have := (Array.getElem?_eq_some_iff.1 (hDs.out D hm).2).1; omega, hnd⟩
        have hDs2 : ∀ E ∈ D :: Ds, w.heap.size < E ∧ W2.heap[E]? = some (.deferred (some [])) := fun E hE => by
          rcases List.mem_cons.1 hE with rfl | hE
          · exact ⟨by omega, hKD⟩
          · exact ⟨(hDs.out E hE).1, h4 E hE⟩
        replace hL2 := Lib.hid hL2
        replace hC2 := Lib.hid hC2
        replace h2 := Lib.hid h2
        replace h1 := Lib.hid h1
        replace hDs2 := Lib.hid hDs2
        replace hnd2 := Lib.hid hnd2
        clear h3 h4 h5 hR2 hts
        gi_wp2
        rw [show (k : Int) + 1 = ((k + 1 : Nat) : Int) by omega]
        refine ⟨⟨k + 1, D :: Ds, _, _, _, _, _, _, _, _, _, rfl, by omega, hnd2.out, hDs2.out, h1.out, h2.out, hL2.out, hC2.out⟩, ?_⟩
        simp [intOf]; omega
      case stop =>
        rintro D c pre W2 hD hpre hf hKD
        exact hf.elim
    · have ht : R.take k = R := List.take_of_length_le (by have := hRl.out; omega)
      rw [ht] at hrow
      rw [← hRl.out, lfTo_all] at hL
      rw [hRl.out] at hL
      have hc := hv.cell
      replace hL := Lib.hid hL
      replace hC := Lib.hid hC
      replace hv := Lib.hid hv
      replace hrow := Lib.hid hrow
      replace hDs := Lib.hid hDs
      clear ht
      gi_wp2
      refine ret_marksN Ds rfl hnd (fun D hD => (hDs.out D hD).2) (v := v) (fun W' => W'.ownsRow (w.heap.size + 1) 3 1 v (tellL g R).length ((tellL g R).map (Value.int .i64)) ∧ ListsAt W' p rb cap k pp bb last (R.map (lfL g)) ∧ Chg (Foot p rb k pp bb) w W') ⟨hrow.out, hL.out, hC.out⟩ ?_ (fun W' _ => results_tmp (fn := Tryd.f65) rfl _ _ _) (fun W' ⟨g1, g2, g3⟩ => ⟨v, rfl, ?_, g2, g3⟩)
      · rintro D hD W' hW' ⟨g1, g2, g3⟩
        have hDw := (hDs.out D hD).1
        have hg := grownBy_putObj' W' D (.deferred none)
        have hc2 : Chg (· = D) W' (W'.putObj D (.deferred none)) := ⟨hg.os, hg.tape, hg.output, hg.size, fun j hj hn => hg.block j hj (fun e => hn (by cases e; rfl))⟩
        refine ⟨ownsRow_putObj g1 _ hW' rfl, g2.chg hc2 (fun j hj hs => by have := hfl.out j hj; omega), ⟨hc2.os.trans g3.os, hc2.tape.trans g3.tape, hc2.output.trans g3.output, Nat.le_trans g3.size hc2.size, fun j hj hn => (hc2.block j (Nat.lt_of_lt_of_le hj g3.size) (by omega)).trans (g3.block j hj hn)⟩⟩
      · refine ⟨g1.1, ?_⟩
        rcases g1.2 with h0 | ⟨g', cap', cur, hv', hb', hg', hr'⟩
        · exact .inl h0
        · exact .inr ⟨g', cap', cur, hv', by omega, hg', hr'⟩
end
end Go.Proofs.YtefippjakkgjkaaDoor.K
