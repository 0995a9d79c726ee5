/- The walks of detentref23: Enter, Exit, Total. -/
import Derived.Test.YtmjknhjlhnljpaaRef23
namespace Go.Proofs.Ytmjknhjlhnljpaa
open Go.RowKit

theorem infoPair : (Try.prog.info? 56).map (fun i => (i.zero, i.size, i.bytes)) = some (some (.agg #[.int .i64 0, .int .i64 0]), 2, 16) := by kernel_rfl
theorem sizeG : (Try.prog.info? 31).map (·.size) = some 18 := by kernel_rfl
theorem gCells_len (cpus : Int) (v : Value) (ms : List Nat) (h : ms.length = 16) : (gCells cpus v ms).length = 18 := by simp [gCells, countCells, h]
theorem gCells_one (cpus : Int) (v : Value) (ms : List Nat) (hv : v.oneCell' = true) : ∀ c ∈ gCells cpus v ms, c.oneCell' = true := by
  intro c hc
  simp only [gCells, countCells, List.mem_cons, List.mem_map] at hc
  rcases hc with rfl | rfl | ⟨z, _, rfl⟩
  · rfl
  · exact hv
  · rfl
theorem SlcS.one {sz : Nat} {w : World} {v : Value} {els : List (List Value)} (h : SlcS sz w v els) : v.oneCell' = true := by obtain ⟨_, _, rfl, _⟩ := h; rfl

theorem Slc_pairs {w W : World} {v : Value} {l : List (Int × Int)} (h : Pairs w v l) (hK : Keeps w W) : Pairs W v l := SlcS.below h hK
/-- What the reference's Enter refuses. -/
def badI (cpus a b : Int) : Prop := a < 0 ∨ cpus ≤ a ∨ b < 0 ∨ 15 < b
instance (cpus a b : Int) : Decidable (badI cpus a b) := by unfold badI; infer_instance
/-- The reference's guard, loaded whole, stored whole. -/
theorem loadG {ops : Array Oper} {rest : List Oper} {o : Oper} {a : Act} {w : World} {Q : Exit → Act → World → Prop} {g : Nat} {cpus : Int} {v : Value} {ms : List Nat} (hb : Blk w g 31 (gCells cpus v ms)) (hm : ms.length = 16) (hgd : o.guard = none) (x : Operand) (ho : o.op = .load 31 x)
    (hx : a.eval x = .pointer (some ⟨g, 0, none⟩)) (h : wpList Try.prog ops Q rest (a.put o.dst (.agg (gCells cpus v ms).toArray)) w) : wpList Try.prog ops Q (o :: rest) a w :=
  loadRow hb hgd _ x ho hx _ Try.underlying31 rfl 18 sizeG (gCells_len cpus v ms hm) h
theorem storeG {ops : Array Oper} {rest : List Oper} {o : Oper} {a : Act} {w : World} {Q : Exit → Act → World → Prop} {g : Nat} {cpus cpus' : Int} {v v' : Value} {ms ms' : List Nat} (hb : Blk w g 31 (gCells cpus' v' ms')) (hm' : ms'.length = 16) (hm : ms.length = 16) (hv : v.oneCell' = true) (hgd : o.guard = none) (x y : Operand) (ho : o.op = .store 31 x y) (hd : o.dst = none)
    (hx : a.eval x = .pointer (some ⟨g, 0, none⟩)) (hy : a.eval y = .agg (gCells cpus v ms).toArray) (h : wpList Try.prog ops Q rest a (w.setRow g (gCells cpus v ms).toArray)) : wpList Try.prog ops Q (o :: rest) a w :=
  storeRow hb (gCells cpus v ms) hgd _ x y ho hd hx hy 18 sizeG (gCells_len cpus v ms hm) (gCells_len cpus' v' ms' hm') (gCells_one cpus v ms hv) h
theorem gCells_zero : gCells 0 (.slice none 0 0) (List.replicate 16 0) = [.int .i64 0, .slice none 0 0, .int .i64 0, .int .i64 0, .int .i64 0, .int .i64 0, .int .i64 0, .int .i64 0, .int .i64 0, .int .i64 0, .int .i64 0, .int .i64 0, .int .i64 0, .int .i64 0, .int .i64 0, .int .i64 0, .int .i64 0, .int .i64 0] := rfl

set_option maxHeartbeats 800000 in
theorem refEnter_bad (cpus : Int) (v : Value) (ms : List Nat) (l : List (Int × Int)) (a b : Int) (w : World) (hv : Pairs w v l) (hm : ms.length = 16) (h : badI cpus a b) :
    Calls Try.prog 11 #[.agg (gCells cpus v ms).toArray, .int .i64 a, .int .i64 b] w fun e w' => e = .returned (.tuple #[.agg (gCells cpus v ms).toArray, .int .i64 2]) ∧ Keeps w w' := by
  have hv1 := hv.one
  replace hm := Lib.hid hm
  replace hv1 := Lib.hid hv1
  replace h := Lib.hid h
  go_enter Try.func11, Try.ntmps11
  go_upto_region 1 with (fail)
  refine wp_gen (fun W => Blk W w.heap.size 31 (gCells cpus v ms) ∧ Blk W (w.heap.size + 1) 31 (gCells 0 (.slice none 0 0) (List.replicate 16 0)) ∧ Keeps w W) ⟨(Blk.new _ _ _).alloc _, Blk.at (by simp) rfl, (Keeps.alloc _ _).trans (Keeps.alloc _ _)⟩ ?_
  rintro W ⟨hB, hB6, hK⟩
  have hc0 := hB.cell 0 (by simp [gCells])
  simp only [gCells, List.getElem_cons_zero] at hc0
  replace hK := Lib.hid hK
  replace hB := Lib.hid hB
  replace hB6 := Lib.hid hB6
  have fin : Blk (W.setRow (w.heap.size + 1) (gCells cpus v ms).toArray) (w.heap.size + 1) 31 (gCells cpus v ms) ∧ Keeps w (W.setRow (w.heap.size + 1) (gCells cpus v ms).toArray) :=
    ⟨hB6.out.setRow _, Chg.keeps (S := fun k => k = w.heap.size + 1) (Chg.setRow _ rfl) hK.out (fun k hk => by omega)⟩
  replace fin := Lib.hid fin
  have hcase : a < 0 ∨ (¬ a < 0 ∧ cpus ≤ a) ∨ (¬ a < 0 ∧ ¬ cpus ≤ a ∧ b < 0) ∨ (¬ a < 0 ∧ ¬ cpus ≤ a ∧ ¬ b < 0 ∧ 15 < b) := by have := h.out; unfold badI at this; omega
  clear h
  rcases hcase with h1 | ⟨h1, h2⟩ | ⟨h1, h2, h3⟩ | ⟨h1, h2, h3, h4⟩
  all_goals
    go_wp2_with (first | (refine loadG hB.out hm.out rfl _ rfl rfl ?_) | (refine storeG hB6.out rfl hm.out hv1.out rfl _ _ rfl rfl rfl rfl ?_))
    refine bodyPost_ret (results_row_slot rfl _ fin.out.1 rfl _ Try.underlying31 rfl 18 sizeG (gCells_len cpus v ms hm.out)) rfl ⟨rfl, fin.out.2⟩

theorem gCells_set (cpus : Int) (v : Value) (ms : List Nat) (n x : Nat) : (gCells cpus v ms).set (2 + n) (.int .i64 (x : Int)) = gCells cpus v (ms.set n x) := by
  rw [Nat.add_comm 2 n]
  simp only [gCells, List.set_cons_succ, countCells, List.map_set]
theorem gCells_get (cpus : Int) (v : Value) (ms : List Nat) (n : Nat) (h : n < ms.length) : (gCells cpus v ms).getD (2 + n) undef = .int .i64 (ms.getD n 0 : Nat) := by
  rw [Nat.add_comm 2 n]
  simp only [gCells, List.getD_cons_succ]
  exact countCells_get ms n h
/-- What a miss makes of a count. -/
def missN (ms : List Nat) (n : Nat) : List Nat := if ms.getD n 0 < 255 then ms.set n (ms.getD n 0 + 1) else ms
theorem missN_len (ms : List Nat) (n : Nat) : (missN ms n).length = ms.length := by unfold missN; split <;> simp

set_option maxRecDepth 100000 in
set_option maxHeartbeats 1000000 in
theorem refEnter_miss (cpus : Int) (v : Value) (ms : List Nat) (l : List (Int × Int)) (a b : Int) (w : World) (hv : Pairs w v l) (hm : ms.length = 16) (hmb : ∀ c ∈ ms, c ≤ 255) (h : ¬ badI cpus a b) (hf : 0 ≤ findI l a b) :
    Calls Try.prog 11 #[.agg (gCells cpus v ms).toArray, .int .i64 a, .int .i64 b] w fun e w' => e = .returned (.tuple #[.agg (gCells cpus v (missN ms b.toNat)).toArray, .int .i64 18]) ∧ Keeps w w' := by
  have hv1 := hv.one
  obtain ⟨n, rfl⟩ : ∃ n : Nat, b = n := ⟨b.toNat, by unfold badI at h; omega⟩
  have hn : n < 16 := by unfold badI at h; omega
  have h1 : ¬ a < 0 := by unfold badI at h; omega
  have h2 : ¬ cpus ≤ a := by unfold badI at h; omega
  have h3 : ¬ (n : Int) < 0 := by omega
  have h4 : ¬ 15 < (n : Int) := by omega
  have h5 : (n : Int) < 16 := by omega
  have h6 : (0 : Int) ≤ (n : Int) := by omega
  have hfind := fun W (hK : Keeps w W) => find_any cpus v ms l a n W (Slc_pairs hv hK)
  rw [Int.toNat_natCast]
  have hlen2 : (missN ms n).length = 16 := by rw [missN_len]; exact hm
  have hgetn : ∀ cpus v, (gCells cpus v ms).getD (2 + n) undef = .int .i64 (ms.getD n 0 : Nat) := fun cpus v => gCells_get cpus v ms n (by omega)
  have hx : ms.getD n 0 ≤ 255 := getD_mem (P := fun c => c ≤ 255) hmb (by omega)
  have hset : ms.getD n 0 < 255 → ∀ cpus v, (gCells cpus v ms).set (2 + n) (.int .i64 ((ms.getD n 0 : Nat) + 1)) = gCells cpus v (missN ms n) := by
    intro hlt cpus v
    have := gCells_set cpus v ms n (ms.getD n 0 + 1)
    rw [Int.natCast_add, show ((1 : Nat) : Int) = 1 from rfl] at this
    rw [this]; unfold missN; rw [if_pos hlt]
  have hsame : ¬ ms.getD n 0 < 255 → missN ms n = ms := by intro h; unfold missN; rw [if_neg h]
  clear h hmb
  generalize findI l a n = f at *
  generalize ms.getD n 0 = x at *
  replace hv1 := Lib.hid hv1
  replace hfind := Lib.hid hfind
  replace hgetn := Lib.hid hgetn
  by_cases hlt : x < 255
  · have hset' := Lib.hid (hset hlt)
    have hlt' : (x : Int) < 255 := by omega
    clear hset hsame
    generalize missN ms n = ms2 at *
    replace hm := Lib.hid hm
    replace hlen2 := Lib.hid hlen2
    go_enter Try.func11, Try.ntmps11
    go_upto_region 1 with (fail)
    refine wp_gen (fun W => Blk W w.heap.size 31 (gCells cpus v ms) ∧ Blk W (w.heap.size + 1) 31 (gCells 0 (.slice none 0 0) (List.replicate 16 0)) ∧ Keeps w W) ⟨(Blk.new _ _ _).alloc _, Blk.at (by simp) rfl, (Keeps.alloc _ _).trans (Keeps.alloc _ _)⟩ ?_
    rintro W ⟨hB, hB6, hK⟩
    have hc0 := hB.cell 0 (by simp [gCells])
    simp only [gCells, List.getElem_cons_zero] at hc0
    replace hK := Lib.hid hK
    replace hB := Lib.hid hB
    replace hB6 := Lib.hid hB6
    go_wp2_with (first | (refine loadG hB.out hm.out rfl _ rfl rfl ?_))
    refine (hfind.out W hK.out).mono ?_
    rintro e W2 ⟨rfl, hK2⟩
    replace hK := Lib.hid (Keeps.trans hK.out hK2)
    replace hB := hB.out.keeps hK2
    replace hB6 := Lib.hid (hB6.out.keeps hK2)
    have hcn := hB.cellD (2 + n) (by rw [gCells_len _ _ _ hm.out]; omega)
    rw [hgetn.out] at hcn
    have hfn := hB.frozen (2 + n)
    have hset : Blk (W2.setCell ⟨w.heap.size, 2 + n, none⟩ (.int .i64 ((x : Int) + 1))) w.heap.size 31 (gCells cpus v ms2) := by
      rw [← hset'.out]; exact hB.set _ _
    have hset6 := hB6.out.other (b' := w.heap.size) (by omega) (2 + n) (.int .i64 ((x : Int) + 1))
    have hsetK : Keeps w (W2.setCell ⟨w.heap.size, 2 + n, none⟩ (.int .i64 ((x : Int) + 1))) := Chg.keeps (S := fun k => k = w.heap.size) (Chg.setCell _ _ rfl) hK.out (fun k hk => by omega)
    replace hset := Lib.hid hset
    replace hset6 := Lib.hid hset6
    replace hsetK := Lib.hid hsetK
    go_upto_region 6 with (fail)
    refine wp_gen (fun W => Blk W w.heap.size 31 (gCells cpus v ms2) ∧ Blk W (w.heap.size + 1) 31 (gCells 0 (.slice none 0 0) (List.replicate 16 0)) ∧ Keeps w W) ⟨hset.out, hset6.out, hsetK.out⟩ ?_
    clear hset hset6 hsetK hcn hfn hK hB hB6
    rintro W ⟨hB, hB6, hK⟩
    replace hK := Lib.hid hK
    have fin : Blk (W.setRow (w.heap.size + 1) (gCells cpus v ms2).toArray) (w.heap.size + 1) 31 (gCells cpus v ms2) ∧ Keeps w (W.setRow (w.heap.size + 1) (gCells cpus v ms2).toArray) :=
      ⟨hB6.setRow _, Chg.keeps (S := fun k => k = w.heap.size + 1) (Chg.setRow _ rfl) hK.out (fun k hk => by omega)⟩
    replace fin := Lib.hid fin
    replace hB := Lib.hid hB
    replace hB6 := Lib.hid hB6
    go_wp2_with (first | (refine loadG hB.out hlen2.out rfl _ rfl rfl ?_) | (refine storeG hB6.out rfl hlen2.out hv1.out rfl _ _ rfl rfl rfl rfl ?_))
    refine bodyPost_ret (results_row_slot rfl _ fin.out.1 rfl _ Try.underlying31 rfl 18 sizeG (gCells_len cpus v ms2 hlen2.out)) rfl ⟨rfl, fin.out.2⟩
  · have hlt' : ¬ (x : Int) < 255 := by omega
    rw [hsame hlt]
    clear hset hsame hlt hlen2
    replace hm := Lib.hid hm
    go_enter Try.func11, Try.ntmps11
    go_upto_region 1 with (fail)
    refine wp_gen (fun W => Blk W w.heap.size 31 (gCells cpus v ms) ∧ Blk W (w.heap.size + 1) 31 (gCells 0 (.slice none 0 0) (List.replicate 16 0)) ∧ Keeps w W) ⟨(Blk.new _ _ _).alloc _, Blk.at (by simp) rfl, (Keeps.alloc _ _).trans (Keeps.alloc _ _)⟩ ?_
    rintro W ⟨hB, hB6, hK⟩
    have hc0 := hB.cell 0 (by simp [gCells])
    simp only [gCells, List.getElem_cons_zero] at hc0
    replace hK := Lib.hid hK
    replace hB := Lib.hid hB
    replace hB6 := Lib.hid hB6
    go_wp2_with (first | (refine loadG hB.out hm.out rfl _ rfl rfl ?_))
    refine (hfind.out W hK.out).mono ?_
    rintro e W2 ⟨rfl, hK2⟩
    replace hK := Lib.hid (Keeps.trans hK.out hK2)
    replace hB := hB.out.keeps hK2
    replace hB6 := Lib.hid (hB6.out.keeps hK2)
    have hcn := hB.cellD (2 + n) (by rw [gCells_len _ _ _ hm.out]; omega)
    rw [hgetn.out] at hcn
    have fin : Blk (W2.setRow (w.heap.size + 1) (gCells cpus v ms).toArray) (w.heap.size + 1) 31 (gCells cpus v ms) ∧ Keeps w (W2.setRow (w.heap.size + 1) (gCells cpus v ms).toArray) :=
      ⟨hB6.out.setRow _, Chg.keeps (S := fun k => k = w.heap.size + 1) (Chg.setRow _ rfl) hK.out (fun k hk => by omega)⟩
    replace fin := Lib.hid fin
    replace hB := Lib.hid hB
    go_wp2_with (first | (refine loadG hB.out hm.out rfl _ rfl rfl ?_) | (refine storeG hB6.out rfl hm.out hv1.out rfl _ _ rfl rfl rfl rfl ?_))
    refine bodyPost_ret (results_row_slot rfl _ fin.out.1 rfl _ Try.underlying31 rfl 18 sizeG (gCells_len cpus v ms hm.out)) rfl ⟨rfl, fin.out.2⟩

/-- An answer of the reference with a list of pairs in it. -/
def RefG (w : World) (cpus : Int) (l : List (Int × Int)) (ms : List Nat) (r : Value) (e : Ending) (w' : World) : Prop := ∃ v, e = .returned (.tuple #[.agg (gCells cpus v ms).toArray, r]) ∧ Pairs w' v l ∧ (∀ c, v.ownBlock = some c → w.heap.size ≤ c) ∧ Keeps w w'
theorem pairs_one (l : List (Int × Int)) : ∀ el ∈ l.map pairEl, ∀ y ∈ el, y.oneCell' = true := by
  intro el hel y hy
  obtain ⟨x, _, rfl⟩ := List.mem_map.1 hel
  simp only [pairEl, List.mem_cons, List.not_mem_nil, or_false] at hy
  rcases hy with rfl | rfl <;> rfl
set_option maxRecDepth 100000 in
set_option maxHeartbeats 1000000 in
theorem refEnter_ok (cpus : Int) (v : Value) (ms : List Nat) (l : List (Int × Int)) (a b : Int) (w : World) (hv : Pairs w v l) (hm : ms.length = 16) (h : ¬ badI cpus a b) (hf : findI l a b < 0) (hll : l.length ≤ 1000) :
    Calls Try.prog 11 #[.agg (gCells cpus v ms).toArray, .int .i64 a, .int .i64 b] w (RefG w cpus (l ++ [(a, b)]) ms (.int .i64 0)) := by
  have hv1 := hv.one
  have h1 : ¬ a < 0 := by unfold badI at h; omega
  have h2 : ¬ cpus ≤ a := by unfold badI at h; omega
  have h3 : ¬ b < 0 := by unfold badI at h; omega
  have h4 : ¬ 15 < b := by unfold badI at h; omega
  have hf' : ¬ 0 ≤ findI l a b := by omega
  have hfind := fun W (hK : Keeps w W) => find_any cpus v ms l a b W (Slc_pairs hv hK)
  clear h hf
  generalize findI l a b = f at *
  replace hv1 := Lib.hid hv1
  replace hfind := Lib.hid hfind
  replace hm := Lib.hid hm
  replace hll := Lib.hid hll
  replace hv := Lib.hid hv
  go_enter Try.func11, Try.ntmps11
  go_upto_region 1 with (fail)
  refine wp_gen (fun W => Blk W w.heap.size 31 (gCells cpus v ms) ∧ Blk W (w.heap.size + 1) 31 (gCells 0 (.slice none 0 0) (List.replicate 16 0)) ∧ Keeps w W) ⟨(Blk.new _ _ _).alloc _, Blk.at (by simp) rfl, (Keeps.alloc _ _).trans (Keeps.alloc _ _)⟩ ?_
  rintro W ⟨hB, hB6, hK⟩
  have hc0 := hB.cell 0 (by simp [gCells])
  simp only [gCells, List.getElem_cons_zero] at hc0
  replace hK := Lib.hid hK
  replace hB := Lib.hid hB
  replace hB6 := Lib.hid hB6
  go_wp2_with (first | (refine loadG hB.out hm.out rfl _ rfl rfl ?_))
  refine (hfind.out W hK.out).mono ?_
  rintro e W2 ⟨rfl, hK2⟩
  replace hK := Lib.hid (Keeps.trans hK.out hK2)
  replace hB := hB.out.keeps hK2
  replace hB6 := Lib.hid (hB6.out.keeps hK2)
  have hc1 := hB.cell 1 (by simp [gCells])
  have hf1 := hB.frozen 1
  simp only [gCells, List.getElem_cons_succ, List.getElem_cons_zero] at hc1
  have hlt := hB.lt
  have hlt6 := hB6.out.lt
  have hB0 := Keeps.alloc W2 (.cells #[] 56)
  have hsrc := Slc_pairs (hv.out) (Keeps.trans hK.out hB0)
  replace hB0 := Lib.hid hB0
  replace hsrc := Lib.hid hsrc
  replace hB := Lib.hid hB
  obtain ⟨p, cap, rfl, _⟩ := hv.out.get
  have hBW2 := hB
  have hB6W2 := hB6
  have hKW2 := hK
  have hb6lt : w.heap.size + 1 < W2.heap.size := hlt6
  go_wp2_with (at_builtin; refine appN rfl _ _ 28 56 _ 2 16 rfl Try.underlying28 infoPair rfl (by decide) W2.heap.size _ [] rfl (RowS.empty 2 _ _ W2 (Nat.le_refl _)) _ (l.map pairEl) rfl hsrc.out (pairs_one l) ?c1 ?c2 ?c3 ?_)
  case c1 => have := hll.out; simp; unfold maxLen; omega
  case c2 => have := hll.out; simp; omega
  case c3 => exact hB0.out.size
  intro v1 W3 hrow _ hbel
  replace hrow : RowS 2 W2.heap.size 56 W3 v1 (l.map pairEl) := by simpa using hrow
  have hK3 : Keeps W2 W3 := Below.trans hB0.out hbel
  have hv1' : v1 = v1 := rfl
  obtain ⟨q1, cap1, rfl⟩ := hrow.any
  replace hB := hB.out.keeps hK3
  replace hB6 := Lib.hid (hB6.out.keeps hK3)
  replace hK := Lib.hid (Keeps.trans hK.out hK3)
  replace hK3 := Lib.hid hK3
  have hsz3 := hK3.out.size
  clear hv1' hc1 hf1 hsrc hB0 hbel hlt hlt6
  have hc1 := hB.cell 1 (by simp [gCells])
  have hf1 := hB.frozen 1
  simp only [gCells, List.getElem_cons_succ, List.getElem_cons_zero] at hc1
  have hlt := hB.lt
  have hsrc2 : SlcS 2 (W3.alloc (.cells (pairEl (a, b)).toArray 56)) (.slice (some ⟨W3.heap.size, 0, none⟩) 1 1) ([(a, b)].map pairEl) := slcs_one (Blk.new W3 _ _) rfl
  have hrow2 := hrow.alloc (.cells (pairEl (a, b)).toArray 56)
  have hB0 := Keeps.alloc W3 (.cells (pairEl (a, b)).toArray 56)
  replace hsrc2 := Lib.hid hsrc2
  replace hrow2 := Lib.hid hrow2
  replace hB0 := Lib.hid hB0
  replace hB := Lib.hid hB
  clear hrow
  go_wp2_with (at_builtin; refine appN rfl _ _ 28 56 _ 2 16 rfl Try.underlying28 infoPair rfl (by decide) W2.heap.size _ _ rfl hrow2.out _ _ rfl hsrc2.out (pairs_one [(a, b)]) ?c1 ?c2 ?c3 ?_)
  case c1 => have := hll.out; simp; unfold maxLen; omega
  case c2 => have := hll.out; simp; omega
  case c3 => (simp only [World.size_alloc]; omega)
  intro v2 W4 hrow _ hbel
  replace hrow : RowS 2 W2.heap.size 56 W4 v2 ((l ++ [(a, b)]).map pairEl) := by simpa using hrow
  have hK4 : Keeps W2 W4 := Below.trans hK3.out (Below.trans (Below.mono hB0.out hsz3) hbel)
  obtain ⟨q2, cap2, rfl⟩ := hrow.any
  have hb0 : w.heap.size + 1 < W2.heap.size := hb6lt
  replace hB := hBW2.out.keeps hK4
  replace hB6 := Lib.hid (hB6W2.out.keeps hK4)
  replace hK := Lib.hid (Keeps.trans hKW2.out hK4)
  have hc1 := hB.cell 1 (by simp [gCells])
  have hf1 := hB.frozen 1
  simp only [gCells, List.getElem_cons_succ, List.getElem_cons_zero] at hc1
  have hset : Blk (W4.setCell ⟨w.heap.size, 1, none⟩ (.slice q2 ((l ++ [(a, b)]).map pairEl).length cap2)) w.heap.size 31 (gCells cpus (.slice q2 ((l ++ [(a, b)]).map pairEl).length cap2) ms) := hB.set 1 _
  have hset6 := hB6.out.other (b' := w.heap.size) (by omega) 1 (.slice q2 ((l ++ [(a, b)]).map pairEl).length cap2)
  have hsetK : Keeps w (W4.setCell ⟨w.heap.size, 1, none⟩ (.slice q2 ((l ++ [(a, b)]).map pairEl).length cap2)) := Chg.keeps (S := fun k => k = w.heap.size) (Chg.setCell _ _ rfl) hK.out (fun k hk => by omega)
  have hsetR := hrow.chg (S := fun k => k = w.heap.size) (Chg.setCell (b := w.heap.size) 1 (.slice q2 ((l ++ [(a, b)]).map pairEl).length cap2) rfl) (fun k hk => by omega)
  replace hset := Lib.hid hset
  replace hset6 := Lib.hid hset6
  replace hsetK := Lib.hid hsetK
  replace hsetR := Lib.hid hsetR
  clear hrow hbel hB0 hsrc2 hrow2 hK3
  generalize hn2 : ((l ++ [(a, b)]).map pairEl).length = n2 at *
  clear hn2
  go_upto_region 8 with (fail)
  refine wp_gen (fun W => Blk W w.heap.size 31 (gCells cpus (.slice q2 n2 cap2) ms) ∧ Blk W (w.heap.size + 1) 31 (gCells 0 (.slice none 0 0) (List.replicate 16 0)) ∧ Keeps w W ∧ RowS 2 W2.heap.size 56 W (.slice q2 n2 cap2) ((l ++ [(a, b)]).map pairEl)) ⟨hset.out, hset6.out, hsetK.out, hsetR.out⟩ ?_
  clear hset hset6 hsetK hsetR hc1 hf1 hK hB hB6
  rintro W ⟨hB, hB6, hK, hR⟩
  have fin : Blk (W.setRow (w.heap.size + 1) (gCells cpus (.slice q2 n2 cap2) ms).toArray) (w.heap.size + 1) 31 (gCells cpus (.slice q2 n2 cap2) ms) ∧ Keeps w (W.setRow (w.heap.size + 1) (gCells cpus (.slice q2 n2 cap2) ms).toArray) :=
    ⟨hB6.setRow _, Chg.keeps (S := fun k => k = w.heap.size + 1) (Chg.setRow _ rfl) hK (fun k hk => by omega)⟩
  have finR : Pairs (W.setRow (w.heap.size + 1) (gCells cpus (.slice q2 n2 cap2) ms).toArray) (.slice q2 n2 cap2) (l ++ [(a, b)]) := (hR.chg (S := fun k => k = w.heap.size + 1) (Chg.setRow _ rfl) (fun k hk => by omega)).slcs
  have finO : ∀ c, (Value.slice q2 n2 cap2).ownBlock = some c → w.heap.size ≤ c := fun c hc => by have := hR.own c hc; omega
  replace fin := Lib.hid fin
  replace finR := Lib.hid finR
  replace finO := Lib.hid finO
  replace hB := Lib.hid hB
  replace hB6 := Lib.hid hB6
  clear hR
  go_wp2_with (first | (refine loadG hB.out hm.out rfl _ rfl rfl ?_) | (refine storeG hB6.out rfl hm.out rfl rfl _ _ rfl rfl rfl rfl ?_))
  refine bodyPost_ret (results_row_slot rfl _ fin.out.1 rfl _ Try.underlying31 rfl 18 sizeG (gCells_len cpus _ ms hm.out)) rfl ⟨_, rfl, finR.out, finO.out, fin.out.2⟩
end Go.Proofs.Ytmjknhjlhnljpaa
