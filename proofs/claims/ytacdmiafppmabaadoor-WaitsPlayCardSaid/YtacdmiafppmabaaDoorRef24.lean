/- The document's answer for the waits: New, is, Chain, By. -/
import Derived.Test.YtacdmiafppmabaaDoorWaitD
namespace Go.Proofs.YtacdmiafppmabaaDoor
open Go.RowKit

/-- A context's cell. -/
def wI (f : WS) (a : Nat) : Int := match f a with | some b => (b : Int) | none => -1
def wc (f : WS) : List Value := (List.range 32).map fun a => .int .i64 (wI f a)
theorem wc_len (f : WS) : (wc f).length = 32 := by simp [wc]
theorem wc_one (f : WS) : ∀ c ∈ wc f, c.oneCell' = true := by
  intro c hc
  simp only [wc, List.mem_map] at hc
  obtain ⟨_, _, rfl⟩ := hc; rfl
theorem wc_get (f : WS) (a : Nat) (h : a < 32) : (wc f)[a]? = some (.int .i64 (wI f a)) := by
  have h2 := h
  simp [wc, h2]
theorem wc_set (f : WS) (a : Nat) (v : Option Nat) (_h : a < 32) : (wc f).set a (.int .i64 (match v with | some b => (b : Int) | none => -1)) = wc (updW f a v) := by
  apply List.ext_getElem
  · simp [wc]
  · intro i h1 h2
    rw [List.getElem_set]
    simp only [wc, List.getElem_map, List.getElem_range]
    by_cases e : a = i
    · subst e; rw [if_pos rfl]; unfold wI; rw [updW_same]
    · rw [if_neg e]; unfold wI; rw [updW_other f v (Ne.symm e)]
theorem wI_pos {f : WS} {a : Nat} : (0 ≤ wI f a) ↔ (f a).isSome = true := by
  unfold wI; cases f a <;> simp <;> omega
abbrev zc32 : List Value := List.replicate 32 (.int .i64 0)
theorem zero32 (w : World) : (zeroValue 38).run Tryd.prog w = .ok (.agg zc32.toArray) w := by kernel_rfl
theorem size32 : (Tryd.prog.info? 38).map (·.size) = some 32 := by kernel_rfl
theorem loadW {ops : Array Oper} {rest : List Oper} {o : Oper} {a : Act} {w : World} {Q : Exit → Act → World → Prop} {g : Nat} {f : WS} (hb : Blk w g 38 (wc f)) (hgd : o.guard = none) (x : Operand) (ho : o.op = .load 38 x)
    (hx : a.eval x = .pointer (some ⟨g, 0, none⟩)) (h : wpList Tryd.prog ops Q rest (a.put o.dst (.agg (wc f).toArray)) w) : wpList Tryd.prog ops Q (o :: rest) a w :=
  loadRow hb hgd _ x ho hx _ Tryd.underlying38 rfl 32 size32 (wc_len f) h
theorem storeW {ops : Array Oper} {rest : List Oper} {o : Oper} {a : Act} {w : World} {Q : Exit → Act → World → Prop} {g : Nat} {f : WS} {old : List Value} (hb : Blk w g 38 old) (hold : old.length = 32) (hgd : o.guard = none) (x y : Operand) (ho : o.op = .store 38 x y) (hd : o.dst = none)
    (hx : a.eval x = .pointer (some ⟨g, 0, none⟩)) (hy : a.eval y = .agg (wc f).toArray) (h : wpList Tryd.prog ops Q rest a (w.setRow g (wc f).toArray)) : wpList Tryd.prog ops Q (o :: rest) a w :=
  storeRow hb (wc f) hgd _ x y ho hd hx hy 32 size32 (wc_len f) hold (wc_one f) h
set_option maxHeartbeats 400000 in
theorem rIs_any (a : Int) (w : World) : Calls Tryd.prog 28 #[.int .i64 a] w fun e w' => e = .returned (.bool (decide (0 ≤ a ∧ a < 32))) ∧ w = w' := by
  by_cases h0 : 0 ≤ a
  · by_cases h1 : a < 32
    · have e : decide (0 ≤ a ∧ a < 32) = true := decide_eq_true ⟨h0, h1⟩
      rw [e]
      go_enter Tryd.func28, Tryd.ntmps28
      go_wp2
      go_ret
      exact ⟨rfl, rfl⟩
    · have e : decide (0 ≤ a ∧ a < 32) = false := decide_eq_false (by omega)
      rw [e]
      go_enter Tryd.func28, Tryd.ntmps28
      go_wp2
      go_ret
      exact ⟨rfl, rfl⟩
  · have e : decide (0 ≤ a ∧ a < 32) = false := decide_eq_false (by omega)
    rw [e]
    go_enter Tryd.func28, Tryd.ntmps28
    go_wp2
    go_ret
    exact ⟨rfl, rfl⟩
theorem rIs_yes (a : Nat) (h : a < 32) (w : World) : Calls Tryd.prog 28 #[.int .i64 (a : Int)] w fun e w' => e = .returned (.bool true) ∧ w = w' := by
  have := rIs_any (a : Int) w
  rwa [show decide ((0 : Int) ≤ a ∧ (a : Int) < 32) = true from decide_eq_true ⟨by omega, by omega⟩] at this
theorem rIs_no (a : Int) (h : ¬ (0 ≤ a ∧ a < 32)) (w : World) : Calls Tryd.prog 28 #[.int .i64 a] w fun e w' => e = .returned (.bool false) ∧ w = w' := by
  have := rIs_any a w
  rwa [decide_eq_false h] at this
/-- The first k cells are set. -/
def newC32 (k : Nat) : List Value := List.replicate k (.int .i64 (-1)) ++ List.replicate (32 - k) (.int .i64 0)
theorem newC32_set (k : Nat) (h : k < 32) : (newC32 k).set k (.int .i64 (-1)) = newC32 (k + 1) := by
  unfold newC32
  rw [List.set_append_right _ _ (by simp), List.length_replicate, Nat.sub_self, show 32 - k = (31 - k) + 1 by omega, List.replicate_succ, List.set_cons_zero, List.replicate_succ', List.append_assoc, List.singleton_append, show 32 - (k + 1) = 31 - k by omega]
theorem newC32_end : newC32 32 = wc wnone := by kernel_rfl
theorem newC32_len (k : Nat) (h : k ≤ 32) : (newC32 k).length = 32 := by simp [newC32]; omega
set_option maxRecDepth 100000 in
set_option maxHeartbeats 1000000 in
theorem rNew_any (w : World) : Calls Tryd.prog 12 #[] w fun e w' => e = .returned (.agg (wc wnone).toArray) ∧ Keeps w w' := by
  have hz := zero32
  go_enter Tryd.func12, Tryd.ntmps12
  go_upto_region 2 with (fail)
  refine wp_gen (fun W => Blk W w.heap.size 38 zc32 ∧ Blk W (w.heap.size + 1) 38 (newC32 0) ∧ Keeps w W) ⟨(Blk.new _ _ _).alloc _, Blk.at (by simp) rfl, (Keeps.alloc _ _).trans (Keeps.alloc _ _)⟩ ?_
  rintro W ⟨hB, hB1, hK⟩
  replace hK := Lib.hid hK
  replace hB := Lib.hid hB
  replace hB1 := Lib.hid hB1
  clear hz
  go_wp2_with fail
  go_loopw [2] (fun iv wr => ∃ k : Nat, k ≤ 32 ∧ iv = .int .i64 (k : Int) ∧ Blk wr w.heap.size 38 zc32 ∧ Blk wr (w.heap.size + 1) 38 (newC32 k) ∧ Keeps w wr) (fun iv _ => 32 - (intOf iv).toNat)
  case atStart => exact ⟨0, by omega, rfl, hB.out, hB1.out, hK.out⟩
  case round =>
    clear hB hB1 hK
    obtain ⟨k, hk, rfl, hB, hB1, hK⟩ := hrel
    by_cases hlt : k < 32
    · have hltI : (k : Int) < 32 := by omega
      have hk0 : (0 : Int) ≤ (k : Int) := by omega
      obtain ⟨u, hu⟩ : ∃ u, (newC32 k)[k]? = some u := ⟨_, List.getElem?_eq_getElem (by rw [newC32_len k hk]; exact hlt)⟩
      have hc := hB1.cellK hu
      have hfr := hB1.frozen k
      have hB2 := hB1.set k (.int .i64 (-1))
      rw [newC32_set k hlt] at hB2
      have hB0 := hB.other (b' := w.heap.size + 1) (by omega) k (.int .i64 (-1))
      have hK2 : Keeps w (wr.setCell ⟨w.heap.size + 1, k, none⟩ (.int .i64 (-1))) := Chg.keeps (S := fun j => j = w.heap.size + 1) (Chg.setCell k _ rfl) hK (fun j hj => by omega)
      replace hB2 := Lib.hid hB2
      replace hB0 := Lib.hid hB0
      replace hK2 := Lib.hid hK2
      clear hB hB1 hK hu
      go_wp2_with fail
      go_roundw
      case rel => exact ⟨k + 1, by omega, by go_num, hB0.out, hB2.out, hK2.out⟩
      case measure => (simp [intOf]; try omega)
    · obtain rfl : k = 32 := by omega
      rw [newC32_end] at hB1
      have hfin := hB.setRow (wc wnone)
      have hK2 : Keeps w (wr.setRow w.heap.size (wc wnone).toArray) := Chg.keeps (S := fun j => j = w.heap.size) (Chg.setRow _ rfl) hK (fun j hj => by omega)
      replace hB := Lib.hid hB
      replace hB1 := Lib.hid hB1
      replace hfin := Lib.hid hfin
      replace hK2 := Lib.hid hK2
      clear hK
      go_wp2_with (first | (refine loadW hB1.out rfl _ rfl rfl ?_) | (refine storeW hB.out (by simp) rfl _ _ rfl rfl rfl rfl ?_))
      refine bodyPost_ret (results_row rfl _ hfin.out rfl _ Tryd.underlying38 rfl 32 size32 (wc_len _)) rfl ⟨rfl, hK2.out⟩
theorem row_base_le {W : World} {base base' sz : Nat} {e : TypeId} {v : Value} {n : Nat} {xs : List Value} (h : W.ownsRow base e sz v n xs) (hb : base' ≤ base) : W.ownsRow base' e sz v n xs := by
  refine ⟨h.1, ?_⟩
  rcases h.2 with h0 | ⟨g, cap, cur, hv, hbg, hg, hr⟩
  · exact .inl h0
  · exact .inr ⟨g, cap, cur, hv, by omega, hg, hr⟩
set_option maxRecDepth 100000 in
set_option maxHeartbeats 1000000 in
theorem rChain_any {f : WS} (hok : WOk f) (a : Int) (w : World) : Calls Tryd.prog 17 #[.agg (wc f).toArray, .int .i64 a] w fun e w' => ∃ v, e = .returned v ∧ w'.ownsRow w.heap.size 3 1 v (chainI f a).length (natInts (chainI f a)) ∧ Keeps w w' := by
  have hB0 := Blk.new w 38 (wc f)
  have hK0 := Keeps.alloc w (.cells (wc f).toArray 38)
  by_cases hin : 0 ≤ a ∧ a < 32
  · obtain ⟨c, rfl⟩ : ∃ c : Nat, a = c := ⟨a.toNat, by omega⟩
    have hc32 : c < 32 := by omega
    have his := rIs_yes c hc32
    have hch := chainI_nat f c
    have hlen := chainI_len hok (c : Int)
    rw [hch] at hlen ⊢
    replace his := Lib.hid his
    replace hB0 := Lib.hid hB0
    replace hK0 := Lib.hid hK0
    clear hin hch
    go_enter Tryd.func17, Tryd.ntmps17
    go_wp2_with fail
    refine (his.out _).mono ?_
    rintro e w' ⟨rfl, rfl⟩
    go_upto_region 4 with (fail)
    refine wp_gen (fun W => Blk W w.heap.size 38 (wc f) ∧ Keeps w W) ⟨hB0.out, hK0.out⟩ ?_
    clear hB0 hK0
    rintro W ⟨hB0, hK0⟩
    replace hB0 := Lib.hid hB0
    replace hK0 := Lib.hid hK0
    go_wp2_with fail
    go_loopw [1, 5, 6] (fun av ov kv wr => ∃ (k x : Nat) (v' : Value) (pre : List Nat), v' = ov ∧ k ≤ 32 ∧ kv = .int .i64 (k : Int) ∧ x < 32 ∧ av = .int .i64 (x : Int) ∧ pre.length = k ∧ chainW f c = pre ++ chainN f (32 - k) x ∧ wr.ownsRow (w.heap.size + 1) 3 1 v' pre.length (natInts pre) ∧ Blk wr w.heap.size 38 (wc f) ∧ Below (w.heap.size + 1) W wr) (fun _ _ kv _ => 32 - (intOf kv).toNat)
    case atStart => exact ⟨0, c, _, [], rfl, by omega, rfl, hc32, rfl, rfl, rfl, World.ownsRow_nil _ _ _ _, hB0.out, Below.refl _ _⟩
    case round =>
      clear hB0
      obtain ⟨k, x, v, pre, rfl, hk, rfl, hx, rfl, hpl, hcw, hrow, hB, hbel⟩ := hrel
      have hpre31 : pre.length ≤ 31 := by have := hlen; rw [hcw, List.length_append] at this; omega
      have hlt : k < 32 := by omega
      have hltI : (k : Int) < 32 := by omega
      have hx0 : (0 : Int) ≤ (x : Int) := by omega
      have hx32 : (x : Int) < 32 := by omega
      have hcell := hB.cellK (wc_get f x hx)
      cases hfx : f x with
      | none =>
        have hwi : wI f x = -1 := by unfold wI; rw [hfx]
        rw [hwi] at hcell
        have hend : chainW f c = pre := by rw [hcw, chainN_none hfx, List.append_nil]
        have hfin : Keeps w wr := Below.trans hK0.out (Below.mono hbel (by have := hK0.out.size; omega))
        have hrow2 := row_base_le hrow (Nat.le_succ w.heap.size)
        replace hfin := Lib.hid hfin
        replace hrow2 := Lib.hid hrow2
        replace hcw := Lib.hid hcw
        replace hend := Lib.hid hend
        replace hfx := Lib.hid hfx
        replace hwi := Lib.hid hwi
        clear hrow hbel hB
        go_wp2_with fail
        go_ret
        exact ⟨_, rfl, by rw [hend.out]; exact hrow2.out, hfin.out⟩
      | some y =>
        have hwi : wI f x = y := by unfold wI; rw [hfx]
        rw [hwi] at hcell
        have hy32 := (hok.dom x y hfx).2
        have hcw2 : chainW f c = (pre ++ [y]) ++ chainN f (32 - (k + 1)) y := by
          rw [hcw, show 32 - k = (32 - (k + 1)) + 1 by omega, chainN_some hfx]; simp
        have hy0 : (0 : Int) ≤ (y : Int) := by omega
        have hsz := hbel.size
        have hsz0 := hK0.out.size
        have hWs : w.heap.size + 1 ≤ wr.heap.size := by have := hB.lt; omega
        have hBn := hB
        replace hcw2 := Lib.hid hcw2
        replace hcw := Lib.hid hcw
        replace hfx := Lib.hid hfx
        replace hwi := Lib.hid hwi
        replace hBn := Lib.hid hBn
        replace hbel := Lib.hid hbel
        clear hB hsz hsz0
        go_wp2_with (at_builtin; refine app1 rfl _ _ 29 3 (.int .i64 0) 8 rfl Tryd.underlying29 infoInt rfl (w.heap.size + 1) _ _ _ rfl hrow _ rfl rfl (by unfold maxLen; omega) (by omega) hWs ?_; intro g cap w1 hown' hgrow hbel1)
        have hB1 : Blk w1 w.heap.size 38 (wc f) := hBn.out.below hbel1 (by omega)
        have hbel2 : Below (w.heap.size + 1) W w1 := hbel.out.trans hbel1
        have hr1 : w1.ownsRow (w.heap.size + 1) 3 1 (.slice (some ⟨g, 0, none⟩) (pre.length + 1) cap) (pre ++ [y]).length (natInts (pre ++ [y])) := by
          rw [List.length_append, natInts, List.map_append]; exact hown'
        replace hB1 := Lib.hid hB1
        replace hbel2 := Lib.hid hbel2
        replace hr1 := Lib.hid hr1
        clear hown' hgrow hbel1 hcell
        go_wp2_with fail
        go_roundw
        case rel => exact ⟨k + 1, y, _, pre ++ [y], rfl, by omega, by go_num, hy32, rfl, by simp [hpl], hcw2.out, by rw [← hpl]; exact hr1.out, hB1.out, hbel2.out⟩
        case measure => (simp [intOf]; try omega)
  · have his := rIs_no a hin
    have hnil : chainI f a = [] := chainI_none (whom_out hok (by omega))
    rw [hnil]
    replace his := Lib.hid his
    replace hK0 := Lib.hid hK0
    replace hnil := Lib.hid hnil
    replace hin := Lib.hid hin
    clear hB0
    go_enter Tryd.func17, Tryd.ntmps17
    go_wp2_with fail
    refine (his.out _).mono ?_
    rintro e w' ⟨rfl, rfl⟩
    go_wp2_with fail
    go_ret
    exact ⟨_, rfl, World.ownsRow_nil _ _ _ _, hK0.out⟩
end Go.Proofs.YtacdmiafppmabaaDoor
