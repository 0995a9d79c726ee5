/- The walks of package calls: the lists in memory; New, Add. -/
import Derived.Test.YtefippjakkgjkaaDoorKRing2bC
import Derived.Deep.AppendLies
namespace Go.Proofs.YtefippjakkgjkaaDoor.K
open Go.RowKit

abbrev Cl : Type := Int × Int
theorem _root_.Go.Proofs.YtefippjakkgjkaaDoor.Chg.cell'' {S : Nat → Prop} {W W' : World} {p : Addr} (h : Chg S W W') (hlt : p.block < W.heap.size) (hn : ¬ S p.block) : W'.cell? p = W.cell? p := World.cell?_of_block (h.block p.block hlt hn)
/-- Callbacks by CPUs at p: the row rb of the rings' pointers, the rings at pp i over bb i, the last generation, what each ring holds. -/
structure ListsAt (w : World) (p rb cap n : Nat) (pp bb : Nat → Nat) (last : Int) (R : List (List Cl)) : Prop where
  hdr : Blk w p 109 [.slice (some ⟨rb, 0, none⟩) n cap, .int .i64 last]
  tab : ∃ cs, Blk w rb 110 cs ∧ ∀ i, i < n → cs[i]? = some (.pointer (some ⟨pp i, 0, none⟩))
  hn : n ≤ cap
  hcap : cap ≤ maxLen
  len : R.length = n
  ring : ∀ i, i < n → ∃ hd, RingAt w (pp i) (bb i) 64 hd (R.getD i [])
  ne : p ≠ rb
  far : ∀ i, i < n → pp i ≠ p ∧ bb i ≠ p ∧ pp i ≠ rb ∧ bb i ≠ rb
  apart : ∀ i j, i < n → j < n → i ≠ j → pp i ≠ pp j ∧ pp i ≠ bb j ∧ bb i ≠ bb j
  n64 : n ≤ 64
/-- The blocks of lists. -/
def Foot (p rb n : Nat) (pp bb : Nat → Nat) (k : Nat) : Prop := k = p ∨ k = rb ∨ ∃ i, i < n ∧ (k = pp i ∨ k = bb i)
section
variable {w w' : World} {p rb cap n : Nat} {pp bb : Nat → Nat} {last : Int} {R : List (List Cl)}
theorem ListsAt.chg {S : Nat → Prop} (h : ListsAt w p rb cap n pp bb last R) (hc : Chg S w w') (hS : ∀ k, Foot p rb n pp bb k → ¬ S k) : ListsAt w' p rb cap n pp bb last R := by
  refine ⟨h.hdr.chg hc (hS p (.inl rfl)), ?_, h.hn, h.hcap, h.len, fun i hi => ?_, h.ne, h.far, h.apart, h.n64⟩
  · obtain ⟨cs, h1, h2⟩ := h.tab
    exact ⟨cs, h1.chg hc (hS rb (.inr (.inl rfl))), h2⟩
  · obtain ⟨hd, hR⟩ := h.ring i hi
    exact ⟨hd, hR.chg hc (hS _ (.inr (.inr ⟨i, hi, .inl rfl⟩))) (hS _ (.inr (.inr ⟨i, hi, .inr rfl⟩)))⟩
theorem ListsAt.keeps (h : ListsAt w p rb cap n pp bb last R) (hk : Keeps w w') : ListsAt w' p rb cap n pp bb last R := by
  refine ⟨h.hdr.keeps hk, ?_, h.hn, h.hcap, h.len, fun i hi => ?_, h.ne, h.far, h.apart, h.n64⟩
  · obtain ⟨cs, h1, h2⟩ := h.tab
    exact ⟨cs, h1.keeps hk, h2⟩
  · obtain ⟨hd, hR⟩ := h.ring i hi
    exact ⟨hd, hR.keeps hk⟩
theorem ListsAt.foot_lt (h : ListsAt w p rb cap n pp bb last R) : ∀ k, Foot p rb n pp bb k → k < w.heap.size := by
  rintro k (rfl | rfl | ⟨i, hi, rfl | rfl⟩)
  · exact h.hdr.lt
  · obtain ⟨cs, h1, _⟩ := h.tab; exact h1.lt
  · obtain ⟨hd, hR⟩ := h.ring i hi; exact hR.lt.1
  · obtain ⟨hd, hR⟩ := h.ring i hi; exact hR.lt.2
/-- One ring has turned. -/
theorem ListsAt.set (h : ListsAt w p rb cap n pp bb last R) {i hd : Nat} (hi : i < n) {x : List Cl} (hR : RingAt w' (pp i) (bb i) 64 hd x) (hc : Chg (fun k => k = pp i ∨ k = bb i) w w') : ListsAt w' p rb cap n pp bb last (R.set i x) := by
  have hf := h.far i hi
  refine ⟨h.hdr.chg hc (by omega), ?_, h.hn, h.hcap, by rw [List.length_set]; exact h.len, fun j hj => ?_, h.ne, h.far, h.apart, h.n64⟩
  · obtain ⟨cs, h1, h2⟩ := h.tab
    exact ⟨cs, h1.chg hc (by omega), h2⟩
  · by_cases e : i = j
    · subst e
      refine ⟨hd, ?_⟩
      rw [show (R.set i x).getD i [] = x by simp [List.getD, h.len, hi]]
      exact hR
    · obtain ⟨hd', hR'⟩ := h.ring j hj
      refine ⟨hd', ?_⟩
      rw [show (R.set i x).getD j [] = R.getD j [] by simp [List.getD, e]]
      have h1 := h.apart i j hi hj e
      have h2 := h.apart j i hj hi (Ne.symm e)
      exact hR'.chg hc (by omega) (by omega)
theorem _root_.Go.Proofs.YtefippjakkgjkaaDoor.Chg.toFoot {i : Nat} (hi : i < n) (hc : Chg (fun k => k = pp i ∨ k = bb i) w w') : Chg (Foot p rb n pp bb) w w' := hc.mono fun _ _ hs => .inr (.inr ⟨i, hi, hs⟩)
theorem ListsAt.c0 (h : ListsAt w p rb cap n pp bb last R) : w.cell? ⟨p, 0, none⟩ = some (.slice (some ⟨rb, 0, none⟩) n cap) := h.hdr.cell 0 (by simp)
theorem ListsAt.c1 (h : ListsAt w p rb cap n pp bb last R) : w.cell? ⟨p, 1, none⟩ = some (.int .i64 last) := h.hdr.cell 1 (by simp)
theorem ListsAt.ptr (h : ListsAt w p rb cap n pp bb last R) (i : Nat) (hi : i < n) : w.cell? ⟨rb, i, none⟩ = some (.pointer (some ⟨pp i, 0, none⟩)) := by
  obtain ⟨cs, h1, h2⟩ := h.tab
  exact h1.cellK (h2 i hi)
theorem ListsAt.setLast (h : ListsAt w p rb cap n pp bb last R) (x : Int) : ListsAt (w.setCell ⟨p, 1, none⟩ (.int .i64 x)) p rb cap n pp bb x R := by
  have hC : Chg (· = p) w (w.setCell ⟨p, 1, none⟩ (.int .i64 x)) := Chg.setCell _ _ rfl
  refine ⟨h.hdr.set 1 _, ?_, h.hn, h.hcap, h.len, fun i hi => ?_, h.ne, h.far, h.apart, h.n64⟩
  · obtain ⟨cs, h1, h2⟩ := h.tab
    exact ⟨cs, h1.chg hC h.ne.symm, h2⟩
  · obtain ⟨hd, hR⟩ := h.ring i hi
    have hf := h.far i hi
    exact ⟨hd, hR.chg hC hf.1 hf.2.1⟩
end
theorem infoP : (Tryd.prog.info? 110).map (fun i => (i.zero, i.size, i.bytes)) = some (some (.pointer none), 1, 8) := by kernel_rfl
set_option maxHeartbeats 400000 in
theorem lnew_no (n : Int) (w : World) (h : n < 1 ∨ 64 < n) : Calls Tryd.prog 38 #[.int .i64 n] w fun e w' => e = .returned (.tuple #[.pointer none, .int .i64 2]) ∧ w = w' := by
  have hcase : n < 1 ∨ (¬ n < 1 ∧ 64 < n) := by omega
  clear h
  rcases hcase with h1 | ⟨h1, h2⟩
  all_goals
    go_enter Tryd.func38, Tryd.ntmps38
    go_wp2
    go_ret2
    exact ⟨rfl, rfl⟩
/-- The lists while New makes them: k rings. -/
structure MakeAt (w0 w : World) (p k : Nat) (pp bb : Nat → Nat) (v : Value) : Prop where
  hdr : Blk w p 109 [v, .int .i64 0]
  row : w.ownsRow w0.heap.size 110 1 v k ((List.range k).map fun i => .pointer (some ⟨pp i, 0, none⟩))
  rne : ∀ r, v.ownBlock = some r → r ≠ p ∧ ∀ i, i < k → r ≠ pp i ∧ r ≠ bb i
  ring : ∀ i, i < k → RingAt w (pp i) (bb i) 64 0 []
  far : ∀ i, i < k → pp i ≠ p ∧ bb i ≠ p ∧ w0.heap.size ≤ pp i ∧ w0.heap.size ≤ bb i
  apart : ∀ i j, i < k → j < k → i ≠ j → pp i ≠ pp j ∧ pp i ≠ bb j ∧ bb i ≠ bb j
  hp : w0.heap.size ≤ p
  keeps : Keeps w0 w
/-- 'out = append(out, y)', and where the row lies. -/
theorem app1L {P : Program} {w0 : World} {ops : Array Oper} {rest : List Oper} {o : Oper} {a : Act} {Q : Exit → Act → World → Prop} (hgd : o.guard = none) (s x : Operand) (T e : TypeId) (z0 : Value) (bytes : Nat)
    (ho : o.op = .call { callee := .builtin .append, args := #[s, x], argTypes := #[T, T] }) (ht : P.underlying T = some (.slice e)) (hinfo : (P.info? e).map (fun i => (i.zero, i.size, i.bytes)) = some (some z0, 1, bytes)) (hz : z0.cells.size = 1)
    (base : Nat) (v : Value) (n : Nat) (xs : List Value) (hs : a.eval s = v) (hown : w0.ownsRow base e 1 v n xs) (y : Value) (hx : a.eval x = .slice (some ⟨w0.heap.size, 0, none⟩) 1 1) (hy : y.oneCell' = true)
    (h63 : n + 1 ≤ maxLen) (hbytes : (n + 1) * bytes ≤ 140737488355328) (hbase : base ≤ w0.heap.size)
    (h : ∀ g cap w1, w1.ownsRow base e 1 (.slice (some ⟨g, 0, none⟩) (n + 1) cap) (n + 1) (xs ++ [y]) → (w0.alloc (.cells #[y] e)).grownBy w1 v.ownBlock → (v.ownBlock = some g ∨ g = w0.heap.size + 1) → wpList P ops Q rest (a.put o.dst (.slice (some ⟨g, 0, none⟩) (n + 1) cap)) w1) :
    wpList P ops Q (o :: rest) a (w0.alloc (.cells #[y] e)) := by
  obtain ⟨i0, hi, hz0, hz1, hz2⟩ := info_parts hinfo
  exact wpList_append_lies _ hgd s x T ho base e i0 z0 1 bytes ht hi hz0 hz1 hz2 hz (by decide) v n xs hs (hown.alloc _) ⟨w0.heap.size, 0, none⟩ 1 1 [y] hx rfl (cell_one_new _ _ _) (by simpa using hy) (by decide) h63 hbytes (by simp; omega) (w0.heap.size + 1) (by simp)
    fun g cap w1 h1 h2 h3 _ => h g cap w1 h1 h2 h3
theorem MakeAt.step {w0 wr w2 w3 : World} {p k g cap S : Nat} {pp bb : Nat → Nat} {v : Value} (h : MakeAt w0 wr p k pp bb v) (hS : S = wr.heap.size) (hR : RingAt w2 (S + 1) S 64 0 []) (hK : Keeps wr w2)
    (hown : w3.ownsRow w0.heap.size 110 1 (.slice (some ⟨g, 0, none⟩) (k + 1) cap) (k + 1) ((List.range k).map (fun i => .pointer (some ⟨pp i, 0, none⟩)) ++ [.pointer (some ⟨S + 1, 0, none⟩)]))
    (hgrow : (w2.alloc (.cells #[.pointer (some ⟨S + 1, 0, none⟩)] 110)).grownBy w3 v.ownBlock) (hat : v.ownBlock = some g ∨ g = w2.heap.size + 1) :
    MakeAt w0 (w3.setCell ⟨p, 0, none⟩ (.slice (some ⟨g, 0, none⟩) (k + 1) cap)) p (k + 1) (fun i => if i = k then S + 1 else pp i) (fun i => if i = k then S else bb i) (.slice (some ⟨g, 0, none⟩) (k + 1) cap) := by
  have hRl := hR.lt
  have hpl := h.hdr.lt
  have hsz := h.keeps.size
  have hsz2 := hK.size
  have hrow := fun r hr => row_own h.row r hr
  have hC : Chg (fun x => v.ownBlock = some x) w2 w3 := ⟨hgrow.os, hgrow.tape, hgrow.output, Nat.le_trans (by simp) hgrow.size, fun i hi hn => (hgrow.block i (by simp; omega) (fun e => hn e.symm)).trans (Below.heap_alloc _ _ _ hi)⟩
  have hC2 : Chg (fun x => v.ownBlock = some x ∨ x = p) w2 (w3.setCell ⟨p, 0, none⟩ (.slice (some ⟨g, 0, none⟩) (k + 1) cap)) := (hC.mono fun _ _ hs => .inl hs).trans (Chg.setCell _ _ (.inr rfl))
  have hg : w0.heap.size ≤ g ∧ g ≠ p ∧ g ≠ S ∧ g ≠ S + 1 ∧ ∀ i, i < k → g ≠ pp i ∧ g ≠ bb i := by
    rcases hat with hat | hat
    · have h1 := hrow g hat
      have h2 := h.rne g hat
      exact ⟨h1.1, h2.1, by omega, by omega, h2.2⟩
    · refine ⟨by omega, by omega, by omega, by omega, fun i hi => ?_⟩
      have := (h.ring i hi).lt
      omega
  refine ⟨?_, ?_, ?_, ?_, ?_, ?_, h.hp, ?_⟩
  · have := ((h.hdr.keeps hK).chg hC (fun e => (h.rne p e).1 rfl)).set 0 (.slice (some ⟨g, 0, none⟩) (k + 1) cap)
    exact this
  · have hC3 : Chg (· = p) w3 (w3.setCell ⟨p, 0, none⟩ (.slice (some ⟨g, 0, none⟩) (k + 1) cap)) := Chg.setCell _ _ rfl
    have hl : (List.range (k + 1)).map (fun i => Value.pointer (some ⟨if i = k then S + 1 else pp i, 0, none⟩)) = (List.range k).map (fun i => Value.pointer (some ⟨pp i, 0, none⟩)) ++ [.pointer (some ⟨S + 1, 0, none⟩)] := by
      rw [List.range_succ, List.map_append, List.map_singleton, if_pos rfl]
      congr 1
      apply List.map_congr_left
      intro i hi
      rw [if_neg (by have := List.mem_range.1 hi; omega)]
    rw [hl]
    refine ⟨hown.1, ?_⟩
    rcases hown.2 with ⟨e, _⟩ | ⟨g', cap', cur, e, hb, hgg, hr⟩
    · cases e
    · simp only [Value.slice.injEq, Option.some.injEq, Addr.mk.injEq, and_true] at e
      obtain ⟨rfl, _, rfl⟩ := e
      exact .inr ⟨g, cap, cur, rfl, hb, (hC3.block g ((Array.getElem?_eq_some_iff.1 hgg).1) hg.2.1).trans hgg, hr⟩
  · intro r hr
    obtain rfl : g = r := by simpa [Value.ownBlock] using hr
    refine ⟨hg.2.1, fun i hi => ?_⟩
    by_cases e : i = k
    · rw [if_pos e, if_pos e]; exact ⟨hg.2.2.2.1, hg.2.2.1⟩
    · rw [if_neg e, if_neg e]; exact hg.2.2.2.2 i (by omega)
  · intro i hi
    by_cases e : i = k
    · simp only [if_pos e]
      exact hR.chg hC2 (by rintro (h1 | h1); have := hrow _ h1; omega; omega) (by rintro (h1 | h1); have := hrow _ h1; omega; omega)
    · simp only [if_neg e]
      have hf := h.far i (by omega)
      exact ((h.ring i (by omega)).keeps hK).chg hC2 (by rintro (h1 | h1); exact ((h.rne _ h1).2 i (by omega)).1 rfl; exact hf.1 h1) (by rintro (h1 | h1); exact ((h.rne _ h1).2 i (by omega)).2 rfl; exact hf.2.1 h1)
  · intro i hi
    by_cases e : i = k
    · simp only [if_pos e]; omega
    · simp only [if_neg e]; exact h.far i (by omega)
  · intro i j hi hj hne
    by_cases e : i = k
    · have e2 : j ≠ k := by omega
      have := (h.ring j (by omega)).lt
      simp only [if_pos e, if_neg e2]; omega
    · by_cases e2 : j = k
      · have := (h.ring i (by omega)).lt
        simp only [if_neg e, if_pos e2]; omega
      · simp only [if_neg e, if_neg e2]; exact h.apart i j (by omega) (by omega) hne
  · exact Chg.keeps hC2 (Keeps.trans h.keeps hK) (fun x hx hs => by
      rcases hs with h1 | h1
      · have := hrow _ h1; omega
      · have := h.hp; omega)
/-- All are made. -/
theorem MakeAt.done {w0 w : World} {p k : Nat} {pp bb : Nat → Nat} {v : Value} (h : MakeAt w0 w p k pp bb v) (h1 : 1 ≤ k) (h2 : k ≤ 64) : ∃ rb cap, ListsAt w p rb cap k pp bb 0 (List.replicate k []) ∧ (∀ x, Foot p rb k pp bb x → w0.heap.size ≤ x) := by
  rcases h.row.2 with ⟨_, h0⟩ | ⟨g, cap, cur, hv, hb, hg, hn, hm, hc, ht⟩
  · omega
  · have hr := h.rne g (by rw [hv]; rfl)
    have hh := h.hdr
    rw [hv] at hh
    refine ⟨g, cap, ⟨hh, ⟨cur.toList, hg, fun i hi => ?_⟩, hn, hm, by simp, fun i hi => ⟨0, ?_⟩, hr.1.symm, fun i hi => ?_, h.apart, h2⟩, ?_⟩
    · have := congrArg (·[i]?) ht
      simp only [List.getElem?_take, List.getElem?_map] at this
      rw [if_pos (by omega)] at this
      rw [this]; simp [hi]
    · rw [show (List.replicate k ([] : List Cl)).getD i [] = [] by simp [List.getD, hi]]
      exact h.ring i hi
    · have hf := h.far i hi
      have hx := hr.2 i hi
      exact ⟨hf.1, hf.2.1, hx.1.symm, hx.2.symm⟩
    · rintro x (rfl | rfl | ⟨i, hi, rfl | rfl⟩)
      · exact h.hp
      · exact hb
      · exact (h.far i hi).2.2.1
      · exact (h.far i hi).2.2.2
set_option maxRecDepth 100000 in
set_option maxHeartbeats 2000000 in
theorem lnew_yes (n : Nat) (w : World) (h1 : 1 ≤ n) (h2 : n ≤ 64) :
    Calls Tryd.prog 38 #[.int .i64 n] w fun e w' => ∃ p rb cap pp bb, e = .returned (.tuple #[.pointer (some ⟨p, 0, none⟩), .int .i64 0]) ∧ ListsAt w' p rb cap n pp bb 0 (List.replicate n []) ∧ (∀ k, Foot p rb n pp bb k → w.heap.size ≤ k) ∧ Keeps w w' := by
  have hn1 : ¬ (n : Int) < 1 := by omega
  have hn2 : ¬ 64 < (n : Int) := by omega
  obtain ⟨p, hp⟩ : ∃ p, p = w.heap.size := ⟨_, rfl⟩
  go_enter Tryd.func38, Tryd.ntmps38
  go_upto_region 4 with (fail)
  have hM0 : MakeAt w (w.alloc (.cells #[.slice none 0 0, .int .i64 0] 109)) p 0 (fun _ => 0) (fun _ => 0) (.slice none 0 0) :=
    ⟨Blk.at hp rfl, World.ownsRow_nil _ _ _ _, fun r hr => by simp [Value.ownBlock] at hr, fun i hi => absurd hi (Nat.not_lt_zero i), fun i hi => absurd hi (Nat.not_lt_zero i), fun i j hi => absurd hi (Nat.not_lt_zero i), by omega, Keeps.alloc _ _⟩
  rw [← hp]
  replace hM0 := Lib.hid hM0
  replace hp := Lib.hid hp
  go_wp2_with fail
  go_loopw [16] (fun i wr => ∃ (k : Nat) (pp bb : Nat → Nat) (v : Value), k ≤ n ∧ i = .int .i64 k ∧ MakeAt w wr p k pp bb v) (fun i _ => n - (intOf i).toNat)
  case atStart => exact ⟨0, _, _, _, Nat.zero_le _, rfl, hM0.out⟩
  case round =>
    clear hM0
    obtain ⟨k, pp, bb, v, hk, rfl, hM⟩ := hrel
    have hkn : k < n ∨ k = n := by omega
    rcases hkn with hlt | rfl
    · have hltI := Int.ofNat_lt.2 hlt
      have hnew := new_yes 64 wr (by decide) (by decide)
      rw [show ((64 : Nat) : Int) = 64 from rfl] at hnew
      replace hnew := Lib.hid hnew
      replace hM := Lib.hid hM
      go_wp2_with fail
      refine hnew.out.mono ?_
      rintro e w2 ⟨rfl, hR, hK2⟩
      obtain ⟨S, hS⟩ : ∃ S, S = wr.heap.size := ⟨_, rfl⟩
      have hM1 := hM.out
      have hrow2 : w2.ownsRow w.heap.size 110 1 v k ((List.range k).map fun i => .pointer (some ⟨pp i, 0, none⟩)) := by
        refine ⟨hM1.row.1, ?_⟩
        rcases hM1.row.2 with h0 | ⟨g, cap, cur, hv, hb, hg, hr⟩
        · exact .inl h0
        · exact .inr ⟨g, cap, cur, hv, hb, (hK2.block g ((Array.getElem?_eq_some_iff.1 hg).1)).trans hg, hr⟩
      have hP2 := hM1.hdr.keeps hK2
      have d0 := hP2.cell 0 (by simp)
      have f0 := hP2.frozen 0
      simp only [List.getElem_cons_zero] at d0
      have hsz := hM1.keeps.size
      have hRl := hR.lt
      rw [← hS] at hR ⊢
      have hstep := fun (g cap : Nat) (w3 : World) => MakeAt.step (w3 := w3) (g := g) (cap := cap) hM1 hS hR hK2
      have hw2 : w.heap.size ≤ w2.heap.size := Nat.le_trans hsz hK2.size
      have hhdr := fun (w3 : World) (hgrow : (w2.alloc (.cells #[.pointer (some ⟨S + 1, 0, none⟩)] 110)).grownBy w3 v.ownBlock) => (hP2.alloc _).kept hgrow (fun e => (hM1.rne p e.symm).1 rfl)
      replace hstep := Lib.hid hstep
      replace hhdr := Lib.hid hhdr
      replace hrow2 := Lib.hid hrow2
      replace hS := Lib.hid hS
      clear hM hM1 hR hK2 hP2 hnew hRl
      go_wp2_with (at_builtin; refine app1L rfl _ _ 107 110 (.pointer none) 8 rfl Tryd.underlying107 infoP rfl w.heap.size _ _ _ rfl hrow2.out _ rfl rfl (by unfold maxLen; omega) (by omega) hw2 ?_)
      intro g cap w3 hown hgrow hat
      have hM4 := hstep.out g cap w3 hown hgrow hat
      have hP3 := hhdr.out w3 hgrow
      have d0 := hP3.cell 0 (by simp)
      have f0 := hP3.frozen 0
      simp only [List.getElem_cons_zero] at d0
      replace hM4 := Lib.hid hM4
      clear hown hgrow hat hP3 hstep hhdr hrow2
      go_wp2_with fail
      go_roundw
      case rel => exact ⟨k + 1, _, _, _, by omega, by go_num, hM4.out⟩
      case measure => (simp [intOf]; try omega)
    · obtain ⟨rb, cap, hL, hF⟩ := hM.done h1 h2
      have hK := hM.keeps
      replace hL := Lib.hid hL
      replace hF := Lib.hid hF
      replace hK := Lib.hid hK
      clear hM
      go_wp2_with fail
      go_ret2
      exact ⟨p, rb, cap, pp, bb, rfl, hL.out, hF.out, hK.out⟩
/-! ### Add -/
def addR (xs : List Cl) (ids : List Int) : List Cl := xs ++ (ids.take (64 - xs.length)).map fun i => (i, 0)
set_option maxHeartbeats 400000 in
theorem ladd_nil (c : Int) (v : Value) (w : World) : Calls Tryd.prog 39 #[.pointer none, .int .i64 c, v] w fun e w' => e = .returned (.int .i64 6) ∧ w = w' := by
  go_enter Tryd.func39, Tryd.ntmps39
  go_wp2
  go_ret
  exact ⟨rfl, rfl⟩
section
variable {w : World} {p rb cap n : Nat} {pp bb : Nat → Nat} {last : Int} {R : List (List Cl)}
set_option maxHeartbeats 1000000 in
theorem ladd_no (h : ListsAt w p rb cap n pp bb last R) (c : Int) (hc : c < 0 ∨ (n : Int) ≤ c) (v : Value) : Calls Tryd.prog 39 #[.pointer (some ⟨p, 0, none⟩), .int .i64 c, v] w fun e w' => e = .returned (.int .i64 2) ∧ w = w' := by
  have c0 := h.c0
  have hcase : c < 0 ∨ (¬ c < 0 ∧ (n : Int) ≤ c) := by omega
  clear h hc
  rcases hcase with h1 | ⟨h1, h2⟩
  all_goals
    go_enter Tryd.func39, Tryd.ntmps39
    go_wp2
    go_ret
    exact ⟨rfl, rfl⟩
set_option maxRecDepth 100000 in
set_option maxHeartbeats 2000000 in
theorem ladd_any (h : ListsAt w p rb cap n pp bb last R) (c : Nat) (hc : c < n) (v : Value) (ids : List Int) (hv : Ints w v ids) (hsep : ∀ k, v.ownBlock = some k → 0 < ids.length → ¬ Foot p rb n pp bb k) :
    Calls Tryd.prog 39 #[.pointer (some ⟨p, 0, none⟩), .int .i64 c, v] w fun e w' => e = .returned (.int .i64 (if ids.length ≤ 64 - (R.getD c []).length then 0 else 3)) ∧
      ListsAt w' p rb cap n pp bb last (R.set c (addR (R.getD c []) ids)) ∧ Chg (Foot p rb n pp bb) w w' := by
  obtain ⟨q, vcap, rfl, hl, hvc, hcell⟩ := hv.open
  have hz0 : (0 : Int) ≤ ids.length := by omega
  have hcI : (c : Int) < (n : Int) := by omega
  have hc0 : ¬ (c : Int) < 0 := by omega
  have hc00 : (0 : Int) ≤ (c : Int) := by omega
  have hnc := h.hn
  have hncap := h.hcap
  unfold maxLen at hncap
  have c0 := h.c0
  have h64 : (R.getD c []).length ≤ 64 := by obtain ⟨hd, hR⟩ := h.ring c hc; exact hR.len
  generalize hX : R.getD c [] = X at *
  have hset : R.set c X = R := by
    rw [← hX]
    apply List.ext_getElem
    · simp
    · intro i h1 h2
      rw [List.getElem_set]
      split
      · rename_i e; subst e; simp [List.getD, h2]
      · rfl
  replace hX := Lib.hid hX
  replace hset := Lib.hid hset
  replace hcell := Lib.hid hcell
  replace hsep := Lib.hid hsep
  replace h := Lib.hid h
  go_enter Tryd.func39, Tryd.ntmps39
  go_wp2_with fail
  go_loopw [26] (fun i wr => ∃ k : Nat, k ≤ ids.length ∧ i = .int .i64 k ∧ X.length + k ≤ 64 ∧ ListsAt wr p rb cap n pp bb last (R.set c (X ++ (ids.take k).map fun i => (i, 0))) ∧ Chg (Foot p rb n pp bb) w wr) (fun i _ => ids.length - (intOf i).toNat)
  case atStart => exact ⟨0, Nat.zero_le _, rfl, by omega, by rw [List.take_zero, List.map_nil, List.append_nil, hset.out]; exact h.out, Chg.refl _ _⟩
  case round =>
    clear h c0
    obtain ⟨k, hk, rfl, hk64, hL, hC⟩ := hrel
    have hkl : k < ids.length ∨ k = ids.length := by omega
    rcases hkl with hlt | rfl
    · obtain ⟨b, off, rfl, hcx⟩ := hcell.out k hlt
      have hcx' := (hC.cell'' (p := ⟨b, off + k, none⟩) (cell_lt hcx) (hsep.out b rfl (by omega))).trans hcx
      have hRl : R.length = n := by rw [← hL.len, List.length_set]
      have hgd : (R.set c (X ++ (ids.take k).map fun i => (i, 0))).getD c [] = X ++ (ids.take k).map fun i => (i, 0) := by simp [List.getD, hRl, hc]
      have hYl : (X ++ (ids.take k).map (fun i => ((i, 0) : Cl))).length = X.length + k := by simp; omega
      obtain ⟨hd, hR⟩ := hL.ring c hc
      rw [hgd] at hR
      have c0 := hL.c0
      have cp := hL.ptr c hc
      have hltI := Int.ofNat_lt.2 hlt
      have htk : ids.take (k + 1) = ids.take k ++ [ids[k]] := List.take_succ_eq_append_getElem hlt
      generalize ids[k] = x at *
      by_cases hfull : X.length + k = 64
      · have hpush := push0_any hR (by rw [hYl]; exact hfull) (x, 0) wr.heap.size rfl rfl
        have hfin := fun (W : World) (hd : Nat) (hR' : RingAt W (pp c) (bb c) 64 hd (X ++ (ids.take k).map fun i => (i, 0))) (hC' : Chg (fun k => k = pp c ∨ k = bb c) wr W) => (hL.set hc hR' hC')
        simp only [List.set_set] at hfin
        have hno : ¬ ids.length ≤ 64 - X.length := by omega
        have hadd : addR X ids = X ++ (ids.take k).map fun i => (i, 0) := by unfold addR; rw [show 64 - X.length = k by omega]
        replace hadd := Lib.hid hadd
        replace hpush := Lib.hid hpush
        replace hfin := Lib.hid hfin
        replace hC := Lib.hid hC
        replace hno := Lib.hid hno
        replace htk := Lib.hid htk
        clear hL hgd hYl hR hRl hcx hsep hcell
        go_wp2_with fail
        refine hpush.out.mono ?_
        rintro e w2 ⟨rfl, hR2, hC2⟩
        have hL2 := hfin.out w2 _ hR2 hC2
        replace hL2 := Lib.hid hL2
        have hC3 := Lib.hid (hC.out.trans (Chg.toFoot hc hC2))
        clear hR2 hC2 hfin hpush hC
        go_wp2_with fail
        go_ret
        exact ⟨rfl, by rw [hadd.out]; exact hL2.out, hC3.out⟩
      · have hpush := push1_any hR (by rw [hYl]; omega) (x, 0) wr.heap.size rfl rfl
        have hfin := fun (W : World) (hd : Nat) (hR' : RingAt W (pp c) (bb c) 64 hd ((X ++ (ids.take k).map fun i => (i, 0)) ++ [(x, 0)])) (hC' : Chg (fun k => k = pp c ∨ k = bb c) wr W) => (hL.set hc hR' hC')
        simp only [List.set_set] at hfin
        rw [show (X ++ (ids.take k).map fun i => ((i, 0) : Cl)) ++ [(x, 0)] = X ++ (ids.take (k + 1)).map fun i => (i, 0) by rw [htk, List.map_append, List.append_assoc]; rfl] at hfin hpush
        replace hpush := Lib.hid hpush
        replace hfin := Lib.hid hfin
        replace hC := Lib.hid hC
        replace htk := Lib.hid htk
        clear hL hgd hYl hR hRl hcx
        go_wp2_with fail
        refine hpush.out.mono ?_
        rintro e w2 ⟨rfl, hR2, hC2⟩
        have hL2 := hfin.out w2 _ hR2 hC2
        replace hL2 := Lib.hid hL2
        have hC3 := Lib.hid (hC.out.trans (Chg.toFoot hc hC2))
        clear hR2 hC2 hfin hpush hC
        go_wp2_with fail
        go_roundw
        case rel => exact ⟨k + 1, by omega, by go_num, by omega, hL2.out, hC3.out⟩
        case measure => (simp [intOf]; try omega)
    · have hyes : ids.length ≤ 64 - X.length := by omega
      have hadd : addR X ids = X ++ (ids.take ids.length).map fun i => (i, 0) := by unfold addR; rw [List.take_of_length_le hyes, List.take_of_length_le (Nat.le_refl _)]
      replace hadd := Lib.hid hadd
      replace hyes := Lib.hid hyes
      replace hL := Lib.hid hL
      replace hC := Lib.hid hC
      clear hsep hcell
      go_wp2_with fail
      go_ret
      exact ⟨rfl, by rw [hadd.out]; exact hL.out, hC.out⟩
end
end Go.Proofs.YtefippjakkgjkaaDoor.K
