/- ArenaFinds: the walk (under way). -/
import Derived.Test.YtanidaepfepppaaDoorLaw03e
import Derived.Test.YtanidaepfepppaaDoorApp
import Derived.Test.YtanidaepfepppaaDoorAr5T
import Derived.Test.YtanidaepfepppaaDoorAr7I
import Derived.Test.YtanidaepfepppaaDoorModn
import Derived.Laws.StructEq
import Derived.Deep.DeepCutAuto
import Derived.Deep.CutBlock
import Derived.Deep.RegionLaw
namespace Go.Proofs.YtanidaepfepppaaDoor.ArT
open Go.RowKit Go.Proofs.YtanidaepfepppaaDoor

theorem infoThg : (Tryd.prog.info? 29).map (fun i => (i.zero, i.size, i.bytes)) = some (some (.agg (xCells (0, ByteArray.empty)).toArray), 2, 24) := by kernel_rfl
theorem infoBo : (Tryd.prog.info? 4).map (fun i => (i.zero, i.size, i.bytes)) = some (some (.bool false), 1, 1) := by kernel_rfl
theorem xCells_ones (x : El) : ∀ y ∈ xCells x, y.oneCell' = true := by
  intro y hy
  simp only [xCells, List.mem_cons, List.not_mem_nil, or_false] at hy
  rcases hy with rfl | rfl <;> rfl
theorem bool_ones : ∀ y ∈ [Value.bool false], y.oneCell' = true := by
  intro y hy
  rw [List.mem_singleton.1 hy]; rfl
theorem infoHd : (Tryd.prog.info? 34).map (fun i => (i.zero, i.size, i.bytes)) = some (some (.agg (hEl (0, 0)).toArray), 2, 16) := by kernel_rfl
theorem hEl_ones (z : Int × Int) : ∀ y ∈ hEl z, y.oneCell' = true := by
  intro y hy
  simp only [hEl, List.mem_cons, List.not_mem_nil, or_false] at hy
  rcases hy with rfl | rfl <;> rfl
theorem own_old {W : World} {base sz n : Nat} {e : TypeId} {v : Value} {xs : List Value} (h : W.ownsRow base e sz v n xs) : some W.heap.size ≠ v.ownBlock := by
  rcases h.2 with ⟨rfl, _⟩ | ⟨g, cap, cur, rfl, _, h4, _⟩
  · simp [Value.ownBlock]
  · intro he
    simp only [Value.ownBlock, Option.some.injEq] at he
    have := (Array.getElem?_eq_some_iff.1 h4).1
    omega
theorem hCells {W : World} {H cb off : Nat} {k g xa : Int} {xs : ByteArray} (hB : Blk W H 34 (hEl (k, g))) (hx : W.cell? ⟨cb, off, none⟩ = some (.int .i64 xa) ∧ W.cell? ⟨cb, off + 1, none⟩ = some (.string xs)) : W.cell? ⟨H, 0, none⟩ = some (.int .i64 k) ∧ W.cell? ⟨H, 1, none⟩ = some (.int .i64 g) ∧ W.cell? ⟨cb, off, none⟩ = some (.int .i64 xa) ∧ W.cell? ⟨cb, off + 1, none⟩ = some (.string xs) :=
  ⟨hB.cell 0 (by simp [hEl]), hB.cell 1 (by simp [hEl]), hx⟩
theorem Blk.atT {W : World} {t t' : TypeId} {cs : List Value} {arr : Array Value} {b : Nat} (ht : t' = t) (hb : b = W.heap.size) (ha : arr = cs.toArray) : Blk (W.alloc (.cells arr t')) b t cs := by subst ht; exact Blk.at hb ha
section
variable {ops : Array Oper} {o : Oper} {a : Act} {K : Act → World → Prop} {Q : Exit → Act → World → Prop} {E : Prop} {w w0 : World} {p b : Nat} {la : List (Slot El)} {T : List (Int × Int)} {X : List El} {G : List Bool}
/-- One more told, as a step of the region that draws. -/
theorem stepT (hgd : o.guard = none) (s x : Operand) (ho : o.op = .call { callee := .builtin .append, args := #[s, x], argTypes := #[31, 31] }) (v : Value) (hs : a.eval s = v) (g : Nat) (hx : a.eval x = .slice (some ⟨g, 0, none⟩) 1 1) (z : Int × Int)
    (hB : Blk w0 g 34 (hEl z)) {xv gv : Value} (hK : Keeps w w0) (hR : Rows3 w.heap.size w0 p b la T X G v xv gv) (hl : T.length ≤ 60)
    (h : ∀ v' w1, Keeps w w1 → Rows3 w.heap.size w1 p b la (T ++ [z]) X G v' xv gv → (∀ (g : Nat) (ty : TypeId) (cs : List Value), 34 ≠ ty → Blk w0 g ty cs → Blk w1 g ty cs) → (∀ (g : Nat) (ty : TypeId) (cs : List Value), some g ≠ v.ownBlock → Blk w0 g ty cs → Blk w1 g ty cs) → K (a.put o.dst v') w1) : if Region.wanted o (yielded ops a.tmps) = true then Oper.wp Tryd.prog o a w0 K Q else E :=
  appStepN hgd s x 31 34 _ 2 16 ho Tryd.underlying31 infoHd rfl (by decide) w.heap.size v _ hs hR.told _ 1 [hEl z] hx (slcs_one hB rfl) (fun el he => by obtain rfl := List.mem_singleton.1 he; exact hEl_ones _) (by rw [List.length_map]; unfold maxLen; simp; omega) (by rw [List.length_map]; simp; omega) hK.size fun v' w1 h1 h2 h3 _ => h v' w1 (Below.trans hK h3) (hR.pushT h1 h2) (fun g ty cs hty hb => Blk.kept hb h2 (own_ne hR.told.1 hb hty)) (fun g ty cs hg hb => Blk.kept hb h2 hg)
theorem stepX (hgd : o.guard = none) (s x : Operand) (ho : o.op = .call { callee := .builtin .append, args := #[s, x], argTypes := #[22, 22] }) (v : Value) (hs : a.eval s = v) (g : Nat) (hx : a.eval x = .slice (some ⟨g, 0, none⟩) 1 1) (z : El)
    (hB : Blk w0 g 29 (xCells z)) {tv gv : Value} (hK : Keeps w w0) (hR : Rows3 w.heap.size w0 p b la T X G tv v gv) (hl : X.length ≤ 60)
    (h : ∀ v' w1, Keeps w w1 → Rows3 w.heap.size w1 p b la T (X ++ [z]) G tv v' gv → (∀ (g : Nat) (ty : TypeId) (cs : List Value), 29 ≠ ty → Blk w0 g ty cs → Blk w1 g ty cs) → K (a.put o.dst v') w1) : if Region.wanted o (yielded ops a.tmps) = true then Oper.wp Tryd.prog o a w0 K Q else E :=
  appStepN hgd s x 22 29 _ 2 24 ho Tryd.underlying22 infoThg rfl (by decide) w.heap.size v _ hs hR.things _ 1 [xCells z] hx (slcs_one hB rfl) (fun el he => by obtain rfl := List.mem_singleton.1 he; exact xCells_ones _) (by rw [List.length_map]; unfold maxLen; simp; omega) (by rw [List.length_map]; simp; omega) hK.size fun v' w1 h1 h2 h3 _ => h v' w1 (Below.trans hK h3) (hR.pushX h1 h2) (fun g ty cs hty hb => Blk.kept hb h2 (own_ne hR.things.1 hb hty))
theorem stepG (hgd : o.guard = none) (s x : Operand) (ho : o.op = .call { callee := .builtin .append, args := #[s, x], argTypes := #[32, 32] }) (v : Value) (hs : a.eval s = v) (g : Nat) (hx : a.eval x = .slice (some ⟨g, 0, none⟩) 1 1)
    (hB : Blk w0 g 4 [.bool false]) {tv xv : Value} (hK : Keeps w w0) (hR : Rows3 w.heap.size w0 p b la T X G tv xv v) (hl : G.length ≤ 60)
    (h : ∀ v' w1, Keeps w w1 → Rows3 w.heap.size w1 p b la T X (G ++ [false]) tv xv v' → (∀ (g : Nat) (ty : TypeId) (cs : List Value), 4 ≠ ty → Blk w0 g ty cs → Blk w1 g ty cs) → K (a.put o.dst v') w1) : if Region.wanted o (yielded ops a.tmps) = true then Oper.wp Tryd.prog o a w0 K Q else E :=
  appStep hgd s x 32 4 (.bool false) 1 ho Tryd.underlying32 infoBo rfl w.heap.size v _ _ hs hR.gone _ 1 1 [.bool false] hx (by simp) (Blk.slc (cs := [.bool false]) hB 1 1 (by simp) (by simp) (by unfold maxLen; omega)) bool_ones (by unfold maxLen; simp; omega) (by simp; omega) hK.size fun v' w1 h1 h2 h3 => h v' w1 (Below.trans hK h3) (hR.pushG h1 h2) (fun g ty cs hty hb => Blk.kept hb h2 (own_ne hR.gone hb hty))
end
def hOf (e : Ent El) : Int × Int := ((e.s : Int), (e.g : Int))
/-- Where the law is: the arena, what was told, and nothing old is changed. -/
structure InvF (w W : World) (p b : Nat) (la : List (Slot El)) (t : List (Ent El)) (tv xv gv : Value) : Prop where
  rows : Rows3 w.heap.size W p b la (t.map hOf) (t.map fun e : Ent El => e.x) (t.map fun e : Ent El => e.gone) tv xv gv
  ok : FindsOk la t
  keeps : Keeps w W
theorem InvF.kept {w W W' : World} {p b : Nat} {la : List (Slot El)} {t : List (Ent El)} {tv xv gv : Value} (h : InvF w W p b la t tv xv gv) (hk : Keeps W W') : InvF w W' p b la t tv xv gv := ⟨h.rows.keeps hk, h.ok, h.keeps.trans hk⟩
theorem rows_put {n0 : Nat} {W : World} {p b : Nat} {la : List (Slot El)} {t : List (Ent El)} {k g : Nat} {x : El} {tv xv gv : Value} (h : Rows3 n0 W p b la (t.map hOf ++ [((k : Int), (g : Int))]) ((t.map fun e : Ent El => e.x) ++ [x]) ((t.map fun e : Ent El => e.gone) ++ [false]) tv xv gv) : Rows3 n0 W p b la ((t ++ [(⟨k, g, x, false⟩ : Ent El)]).map hOf) ((t ++ [(⟨k, g, x, false⟩ : Ent El)]).map fun e : Ent El => e.x) ((t ++ [(⟨k, g, x, false⟩ : Ent El)]).map fun e : Ent El => e.gone) tv xv gv := by
  rw [List.map_append, List.map_append, List.map_append]; exact h
/-- Put, seen from the law. -/
theorem put_F {w W : World} {p b : Nat} {la : List (Slot El)} {t : List (Ent El)} {tv xv gv : Value} (h : InvF w W p b la t tv xv gv) (hwp : w.heap.size ≤ p) (hwb : w.heap.size ≤ b) (hT : TabAt W) (x : El) :
    Calls Tryd.prog 9 #[.pointer (some ⟨p, 0, none⟩), .agg #[.int .i64 x.1, .string x.2]] W fun e W' => ∃ z f la', e = .returned (.tuple #[.agg (hEl z).toArray, .int .i64 f]) ∧ Rows3 w.heap.size W' p b la' (t.map hOf) (t.map fun e : Ent El => e.x) (t.map fun e : Ent El => e.gone) tv xv gv ∧ Keeps w W' ∧
      ((f = 0 ∧ ∃ k, ∃ hk : k < la.length, la[k].open = true ∧ z = ((k : Int), (la[k].gen : Int)) ∧ la' = la.set k ⟨la[k].gen, true, x⟩) ∨ (f = 3 ∧ la' = la ∧ openAt la 0 = none)) := by
  cases hn : openAt la 0 with
  | none =>
    refine (put_full h.rows.ar hT hn x).mono ?_
    rintro e W' ⟨rfl, hK⟩
    exact ⟨_, _, la, rfl, h.rows.keeps hK, h.keeps.trans hK, .inr ⟨rfl, rfl, rfl⟩⟩
  | some k =>
    obtain ⟨_, hi, ho, _⟩ := openAt_some hn
    simp only [Nat.sub_zero] at hi ho
    refine (put_ok h.rows.ar hT k hn x).mono ?_
    rintro e W' ⟨rfl, hA, hC⟩
    have hput : putL la x = la.set k ⟨la[k].gen, true, x⟩ := by unfold putL; rw [hn]; exact modify_set la k hi _
    rw [hput] at hA
    refine ⟨_, _, _, rfl, h.rows.arena hA hC, Chg.keeps hC h.keeps (fun j hj e => by rcases e with e | e <;> omega), .inl ⟨rfl, k, hi, ho, ?_, rfl⟩⟩
    rw [List.getElem?_eq_getElem hi]
    rfl
theorem freeAll_one (l : List (Slot El)) (z : Int × Int) : freeAll l [z] = if findE l z.1 z.2 = 0 then (freeAt zEl l z.1.toNat, 0) else (l, findE l z.1 z.2) := by
  unfold freeAll; split <;> rfl
/-- What freeing a told handle does. -/
theorem FindsOk.freed {la : List (Slot El)} {t : List (Ent El)} (h : FindsOk la t) (k : Nat) (hk : k < t.length) : FindsOk (freeAll la [hOf t[k]]).1 (t.set k ⟨t[k].s, t[k].g, t[k].x, true⟩) ∧ (freeAll la [hOf t[k]]).2 = if t[k].gone = true then 7 else 0 := by
  have hf := h.find k hk
  rw [freeAll_one]
  show FindsOk (if findE la (t[k].s : Int) (t[k].g : Int) = 0 then (freeAt zEl la (t[k].s : Int).toNat, 0) else (la, findE la (t[k].s : Int) (t[k].g : Int))).1 _ ∧ (if findE la (t[k].s : Int) (t[k].g : Int) = 0 then (freeAt zEl la (t[k].s : Int).toNat, (0 : Int)) else (la, findE la (t[k].s : Int) (t[k].g : Int))).2 = _
  rw [hf]
  cases hg : t[k].gone with
  | true =>
    refine ⟨?_, rfl⟩
    have e : t.set k ⟨t[k].s, t[k].g, t[k].x, true⟩ = t := by
      rw [← hg]
      exact List.set_getElem_self hk
    rw [e]; exact h
  | false =>
    refine ⟨?_, rfl⟩
    exact h.free k hk hg zEl
theorem FindsOk.getX {la : List (Slot El)} {t : List (Ent El)} (h : FindsOk la t) (k : Nat) (hk : k < t.length) (hg : t[k].gone = false) : getX la (t[k].s : Int) (t[k].g : Int) = t[k].x := by
  obtain ⟨hs, _, h2⟩ := h.slot k hk
  have hf := h.find k hk
  rw [hg] at hf
  unfold ArT.getX
  rw [hf, Int.toNat_natCast, List.getElem?_eq_getElem hs]
  exact (h2 hg).2.2
theorem Rows3.gone_any {n0 : Nat} {W : World} {p b : Nat} {la : List (Slot El)} {T : List (Int × Int)} {X : List El} {G : List Bool} {tv xv gv : Value} (h : Rows3 n0 W p b la T X G tv xv gv) : ∃ q cap, gv = .slice q G.length cap := by
  rcases h.gone.2 with ⟨hv, h0⟩ | ⟨g, cap, cur, hv, _⟩
  · exact ⟨none, 0, by rw [hv, h0]⟩
  · exact ⟨_, cap, hv⟩
theorem Rows3.gone_at {n0 : Nat} {W : World} {p b : Nat} {la : List (Slot El)} {T : List (Int × Int)} {X : List El} {G : List Bool} {tv xv : Value} {q : Option Addr} {n cap : Nat} (h : Rows3 n0 W p b la T X G tv xv (.slice q n cap)) (hp : 0 < G.length) : ∃ g, q = some ⟨g, 0, none⟩ ∧ n0 ≤ g ∧ n = G.length ∧ G.length ≤ cap ∧ cap ≤ 9223372036854775807 ∧ ∀ k (hk : k < G.length), W.cell? ⟨g, k, none⟩ = some (.bool G[k]) ∧ W.frozen? ⟨g, k, none⟩ = false := by
  rcases h.gone.2 with ⟨_, h0⟩ | ⟨g, cap', cur, hv, h3, h4, h5, h6, h7, h8⟩
  · omega
  · simp only [Value.slice.injEq] at hv
    obtain ⟨rfl, rfl, rfl⟩ := hv
    have hB : Blk W g 4 cur.toList := by unfold Blk; rw [h4]
    refine ⟨g, rfl, h3, rfl, h5, h6, fun k hk => ⟨?_, hB.frozen k⟩⟩
    have e : (G.map Value.bool)[k]? = some (.bool G[k]) := by rw [List.getElem?_map, List.getElem?_eq_getElem hk]; rfl
    rw [← h8, List.getElem?_take_of_lt (by omega)] at e
    obtain ⟨hk', hv'⟩ := List.getElem?_eq_some_iff.1 e
    rw [hB.cell k hk', hv']
theorem InvF.freed {w W1 W2 : World} {p b : Nat} {la : List (Slot El)} {t : List (Ent El)} {tv xv : Value} {g cap : Nat} (h : InvF w W1 p b la t tv xv (.slice (some ⟨g, 0, none⟩) t.length cap)) (hwp : w.heap.size ≤ p) (hwb : w.heap.size ≤ b) (hwg : w.heap.size ≤ g) (k : Nat) (hk : k < t.length)
    (hA : ArenaAt W2 p b (freeAll la [hOf t[k]]).1) (hC : Chg (fun j => j = p ∨ j = b) W1 W2) :
    InvF w (W2.setCell ⟨g, k, none⟩ (.bool true)) p b (freeAll la [hOf t[k]]).1 (t.set k ⟨t[k].s, t[k].g, t[k].x, true⟩) tv xv (.slice (some ⟨g, 0, none⟩) t.length cap) ∧ W2.cell? ⟨g, k, none⟩ = some (.bool t[k].gone) ∧ W2.frozen? ⟨g, k, none⟩ = false := by
  have hR := h.rows.arena hA hC
  have hK := Chg.keeps hC h.keeps (fun j hj e => by rcases e with e | e <;> omega)
  have hl : (t.map fun e : Ent El => e.gone).length = t.length := List.length_map ..
  obtain ⟨g', hg', _, _, _, _, hc⟩ := hR.gone_at (by rw [hl]; omega)
  simp only [Option.some.injEq, Addr.mk.injEq, and_true] at hg'
  subst hg'
  have hc := hc k (by rw [hl]; exact hk)
  rw [List.getElem_map] at hc
  refine ⟨⟨?_, (FindsOk.freed h.ok k hk).1, Chg.keeps (S := (· = g)) (Chg.setCell _ _ rfl) hK (fun j hj e => by omega)⟩, hc⟩
  rw [← hl] at hR
  have hM := hR.mark k true
  rw [hl] at hM
  have e1 : (t.set k ⟨t[k].s, t[k].g, t[k].x, true⟩).map hOf = t.map hOf := by
    rw [List.map_set, show hOf (⟨t[k].s, t[k].g, t[k].x, true⟩ : Ent El) = (t.map hOf)[k]'(by rw [List.length_map]; exact hk) from by rw [List.getElem_map]; rfl, List.set_getElem_self]
  have e2 : (t.set k ⟨t[k].s, t[k].g, t[k].x, true⟩).map (fun e : Ent El => e.x) = t.map fun e : Ent El => e.x := by
    rw [List.map_set, show t[k].x = (t.map fun e : Ent El => e.x)[k]'(by rw [List.length_map]; exact hk) from by rw [List.getElem_map], List.set_getElem_self]
  rw [e1, e2, List.map_set]
  exact hM
set_option maxRecDepth 100000 in
set_option maxHeartbeats 40000000 in
theorem lawFinds_any (sl : Int) (l : List El) (fr : List Int) {lv fv : Value} {w : World} (hl : SlcS 2 w lv (l.map xCells)) (hf : Ints w fv fr) (hT : TabAt w) : Calls Tryd.prog 3 #[.int .i64 sl, lv, fv] w fun e w' => e = .returned (.bool true) ∧ Keeps w w' := by
  obtain ⟨m, hm, em⟩ := wrap_mod sl 64 (by decide)
  have hnew := new_yes (m + 1) w (by omega) (by omega)
  rw [show ((m + 1 : Nat) : Int) = 1 + (m : Int) by omega] at hnew
  have fkn := fun (W : World) (hk : Keeps w W) => ArI.known_any W (hT.keeps hk)
  obtain ⟨lq, lc, rfl, hll, hlc, hlcell⟩ := hl.get
  rw [List.length_map] at hll hlcell ⊢
  obtain ⟨fq, fc, rfl, hfl, hfc, hfcell⟩ := hf.open
  have hm0 : (0 : Int) ≤ (m : Int) := by omega
  have hm1 : (m : Int) < 64 := by omega
  replace hnew := Lib.hid hnew
  replace fkn := Lib.hid fkn
  replace hlcell := Lib.hid hlcell
  replace hfcell := Lib.hid hfcell
  clear hl hf
  go_enter Tryd.func3, Tryd.ntmps3
  go_wp2_with fail
  refine hnew.out.mono ?_
  clear hnew em
  rintro e w1 ⟨p, b, rfl, hA, hwp, hwb, hK⟩
  have hI : InvF w w1 p b (newL zEl (m + 1)) [] (.slice none 0 0) (.slice none 0 0) (.slice none 0 0) := ⟨⟨hA, RowS.nil _ _ _ _, RowS.nil _ _ _ _, ⟨by simp, .inl ⟨rfl, rfl⟩⟩⟩, FindsOk.nil _, hK⟩
  replace hI := Lib.hid hI
  clear hA hK
  go_wp2_with fail
  go_loopw [9, 10, 11, 12] (fun tv xv gv iv wr => ∃ (i : Nat) (la : List (Slot El)) (t : List (Ent El)), i ≤ l.length ∧ i ≤ 60 ∧ iv = .int .i64 (i : Int) ∧ InvF w wr p b la t tv xv gv ∧ t.length ≤ i) (fun _ _ _ iv _ => l.length - (intOf iv).toNat)
  case atStart => exact ⟨0, _, [], by omega, by omega, rfl, hI.out, by simp⟩
  case round =>
    clear hI
    obtain ⟨i, la, t, hi1, hi60, rfl, hI, htl⟩ := hrel
    have hi0 : (0 : Int) ≤ (i : Int) := by omega
    by_cases hlt : i < l.length ∧ i < 60
    · obtain ⟨h1, h2⟩ := hlt
      have h1I : (i : Int) < (l.length : Int) := by omega
      have h2I : (i : Int) < 60 := by omega
      obtain ⟨cb, off, rfl, hcx⟩ := hlcell.out i h1
      have e0 : (l.map xCells).getD i [] = xCells l[i] := by simp [List.getD, h1]
      rw [e0] at hcx
      have hx : ∀ W, Keeps w W → W.cell? ⟨cb, off + i * 2, none⟩ = some (.int .i64 l[i].1) ∧ W.cell? ⟨cb, off + i * 2 + 1, none⟩ = some (.string l[i].2) := fun W h => ⟨(h.cell (cell_lt (hcx 0 (by decide)))).trans (hcx 0 (by decide)), (h.cell (cell_lt (hcx 1 (by decide)))).trans (hcx 1 (by decide))⟩
      obtain ⟨y0, y1⟩ := hx wr hI.keeps
      have hput := put_F hI hwp hwb (hT.keeps hI.keeps) l[i]
      generalize l[i] = x at *
      obtain ⟨xa, xs⟩ := x
      simp only at y0 y1 hx hput
      have hok := hI.ok
      obtain ⟨tq, tc, rfl⟩ := hI.rows.told.any
      rw [List.length_map, List.length_map] at hput hI ⊢
      replace hput := Lib.hid hput
      replace hok := Lib.hid hok
      replace hx := Lib.hid hx
      clear hcx e0 hI
      go_wp2_with fail
      refine hput.out.mono ?_
      clear hput y0 y1
      rintro e w2 ⟨z, f, la', rfl, hR, hK2, hcase⟩
      obtain ⟨z1, z2⟩ := z
      simp only [hEl]
      have hH := Blk.new w2 34 (hEl (z1, z2))
      have hKh := Keeps.alloc w2 (.cells (hEl (z1, z2)).toArray 34)
      have hR2 := hR.keeps hKh
      have hK3 := hK2.trans hKh
      have hHne := own_old hR.told.1
      obtain ⟨H, eH⟩ : ∃ H, H = w2.heap.size := ⟨_, rfl⟩
      rw [← eH] at hH hHne
      replace hHne := Lib.hid hHne
      replace eH := Lib.hid eH
      replace hH := Lib.hid hH
      replace hR2 := Lib.hid hR2
      replace hK3 := Lib.hid hK3
      replace hcase := Lib.hid hcase
      clear hR hK2 hKh
      go_upto_region 11 with (fail)
      rw [← eH.out]
      refine wp_gen (fun W => Blk W H 34 (hEl (z1, z2)) ∧ Rows3 w.heap.size W p b la' (t.map hOf) (t.map fun e : Ent El => e.x) (t.map fun e : Ent El => e.gone) (.slice tq t.length tc) u10 u11 ∧ Keeps w W) ⟨hH.out, hR2.out, hK3.out⟩ ?_
      clear hH hR2 hK3 eH
      rintro W3 ⟨hH, hR, hK⟩
      have hh0 := hH.cell 0 (by simp [hEl])
      have hh1 := hH.cell 1 (by simp [hEl])
      simp only [hEl, List.getElem_cons_zero, List.getElem_cons_succ] at hh0 hh1
      replace hH := Lib.hid hH
      replace hR := Lib.hid hR
      replace hK := Lib.hid hK
      go_upto_if 52 with fail
      go_cut [9, 10, 11] (fun tv xv gv wx => ∃ (la2 : List (Slot El)) (t2 : List (Ent El)), InvF w wx p b la2 t2 tv xv gv ∧ t2.length ≤ i + 1)
      case first =>
        rcases hcase.out with ⟨rfl, k, hk, ho, hz, hla⟩ | ⟨rfl, hla, hno⟩
        · obtain ⟨rfl, rfl⟩ : z1 = (k : Int) ∧ z2 = (la[k].gen : Int) := by simpa using hz
          have hfre := fun j hj => hok.out.fresh hk ho j hj
          have hnew := hok.out.put hk ho (xa, xs)
          rw [← hla] at hnew
          obtain ⟨tq', tc', htv, htl2, htc2, htcell⟩ := hR.out.told.slcs.get
          rw [List.length_map, List.length_map] at htv htl2 htcell
          simp only [Value.slice.injEq] at htv
          obtain ⟨rfl, _, rfl⟩ := htv
          generalize la[k].gen = gz at *
          have ht0 : (0 : Int) ≤ (t.length : Int) := by omega
          replace hfre := Lib.hid hfre
          replace hnew := Lib.hid hnew
          replace htcell := Lib.hid htcell
          clear hz hcase hla ho
          go_wp2_with fail
          go_loopw [15] (fun jv wr => ∃ j : Nat, j ≤ t.length ∧ jv = .int .i64 (j : Int) ∧ Keeps W3 wr) (fun jv _ => t.length - (intOf jv).toNat)
          case atStart => exact ⟨0, by omega, rfl, Keeps.refl _⟩
          case round =>
            obtain ⟨j, hj, rfl, hKj⟩ := hrel
            have hj0 : (0 : Int) ≤ (j : Int) := by omega
            by_cases hjt : j < t.length
            · have hjI : (j : Int) < (t.length : Int) := by omega
              obtain ⟨cb2, off2, rfl, hcj⟩ := htcell.out j hjt
              have e1 : ((t.map hOf).map hEl).getD j [] = hEl (hOf t[j]) := by simp [List.getD, hjt]
              rw [e1] at hcj
              have d0 := (hKj.cell (cell_lt (hcj 0 (by decide)))).trans (hcj 0 (by decide))
              have d1 := (hKj.cell (cell_lt (hcj 1 (by decide)))).trans (hcj 1 (by decide))
              simp only [hEl, hOf, Nat.add_zero, List.getD_cons_zero, List.getD_cons_succ] at d0 d1
              have m0 := (hKj.cell (cell_lt hh0)).trans hh0
              have m1 := (hKj.cell (cell_lt hh1)).trans hh1
              have hne := hfre.out j hjt
              have hne2 : ((t[j].s : Int) == (k : Int)) = false ∨ (((t[j].s : Int) == (k : Int)) = true ∧ ((t[j].g : Int) == (gz : Int)) = false) := by
                by_cases e : t[j].s = k
                · right
                  refine ⟨by rw [beq_iff_eq]; omega, ?_⟩
                  rw [beq_eq_false_iff_ne]
                  intro h
                  exact hne ⟨e, by omega⟩
                · left; rw [beq_eq_false_iff_ne]; omega
              generalize t[j].s = sj at *
              generalize t[j].g = gj at *
              have hKd := Lib.hid hKj
              clear hcj e1 hne hKj
              rcases hne2 with hne2 | ⟨hne2, hne3⟩
              all_goals
                go_wp2_with fail
                go_quiet (fail)
                rename_i nq
                go_wp2_with fail
                go_roundw
                case rel => exact ⟨j + 1, by omega, by go_num, hKd.out.trans (Keeps.drewN _ _)⟩
                case measure => (simp [intOf]; try omega)
            · as_aux_lemma =>
              have hjI : ¬ (j : Int) < (t.length : Int) := by omega
              have hRj := hR.out.keeps hKj
              have hKw := hK.out.trans hKj
              obtain ⟨y0, y1⟩ := hx.out _ hKw
              have m0 := (hKj.cell (cell_lt hh0)).trans hh0
              have m1 := (hKj.cell (cell_lt hh1)).trans hh1
              replace hRj := Lib.hid hRj
              replace hKw := Lib.hid hKw
              have hR0 := Lib.hid fun (W : World) (h : Keeps wr W) => hRj.out.keeps h
              have hK0 := Lib.hid fun (W : World) (h : Keeps wr W) => hKw.out.trans h
              have hlT : (t.map hOf).length ≤ 60 := by rw [List.length_map]; omega
              have hlX : (t.map fun e : Ent El => e.x).length ≤ 60 := by rw [List.length_map]; omega
              have hlG : (t.map fun e : Ent El => e.gone).length ≤ 60 := by rw [List.length_map]; omega
              have hH0 := Lib.hid fun (W : World) (h : Keeps wr W) => (hH.out.keeps hKj).keeps h
              have hS0 := Lib.hid fun (W : World) (h : Keeps wr W) => hCells (hH0.out W h) (hx.out W (hKw.out.trans h))
              replace hlT := Lib.hid hlT
              replace hlX := Lib.hid hlX
              replace hlG := Lib.hid hlG
              clear hh0 hh1 hH hR hK hKj hjt
              go_wp2_with fail
              go_region_held3 (fun w' => w'.cell? ⟨H, 0, none⟩ = some (.int .i64 (k : Int)) ∧ w'.cell? ⟨H, 1, none⟩ = some (.int .i64 (gz : Int)) ∧ w'.cell? ⟨cb, off + i * 2, none⟩ = some (.int .i64 xa) ∧ w'.cell? ⟨cb, off + i * 2 + 1, none⟩ = some (.string xs))
                (first | (focus ((refine hS6.out _ ?_); (repeat (first | (with_reducible exact Keeps.refl _) | (with_reducible refine Keeps.trans ?_ (Keeps.alloc _ _)) | (with_reducible refine Keeps.trans ?_ (Keeps.drew _)))); done)) | (focus ((refine hS5.out _ ?_); (repeat (first | (with_reducible exact Keeps.refl _) | (with_reducible refine Keeps.trans ?_ (Keeps.alloc _ _)) | (with_reducible refine Keeps.trans ?_ (Keeps.drew _)))); done)) | (focus ((refine hS4.out _ ?_); (repeat (first | (with_reducible exact Keeps.refl _) | (with_reducible refine Keeps.trans ?_ (Keeps.alloc _ _)) | (with_reducible refine Keeps.trans ?_ (Keeps.drew _)))); done)) | (focus ((refine hS0.out _ ?_); (repeat (first | (with_reducible exact Keeps.refl _) | (with_reducible refine Keeps.trans ?_ (Keeps.alloc _ _)) | (with_reducible refine Keeps.trans ?_ (Keeps.drew _)))); done)) | go_keep)
                (first
                | ((refine stepT (by rfl) _ _ (by rfl) _ (by rfl) _ (by rfl) ((k : Int), (gz : Int)) ?_ (hK0.out _ ?_) (hR0.out _ ?_) hlT.out ?_); (repeat (first | (with_reducible exact Keeps.refl _) | (with_reducible refine Keeps.trans ?_ (Keeps.alloc _ _)) | (with_reducible refine Keeps.trans ?_ (Keeps.drew _)) | ((with_reducible refine Blk.atT ?_ ?_ ?_); rfl; (first | rfl | (focus (simp only [World.size_alloc]; done)) | (focus (simp only [World.size_alloc]; omega))); rfl) | (with_reducible refine Blk.alloc ?_ _) | (with_reducible refine Blk.keeps ?_ (Keeps.drew _)))); intro v4 w4 hk4 hr4 hB4 hBh; have hR1 := Lib.hid fun (W : World) (h : Keeps w4 W) => hr4.keeps h; have hK1 := Lib.hid fun (W : World) (h : Keeps w4 W) => Keeps.trans hk4 h; have hBK1 := Lib.hid hB4; have hBH4 := Lib.hid hBh; have hH4 := Lib.hid fun (W : World) (h : Keeps w4 W) => (hBH4.out _ _ _ hHne.out (hH0.out _ (by repeat (first | (with_reducible exact Keeps.refl _) | (with_reducible refine Keeps.trans ?_ (Keeps.alloc _ _)) | (with_reducible refine Keeps.trans ?_ (Keeps.drew _)))))).keeps h; have hS4 := Lib.hid fun (W : World) (h : Keeps w4 W) => hCells (hH4.out W h) (hx.out W (Keeps.trans hk4 h)); clear hr4 hk4 hB4 hBh hBH4)
                | ((refine stepX (by rfl) _ _ (by rfl) _ (by rfl) _ (by rfl) (xa, xs) ?_ (hK1.out _ ?_) (hR1.out _ ?_) hlX.out ?_); (repeat (first | (with_reducible exact Keeps.refl _) | (with_reducible refine Keeps.trans ?_ (Keeps.alloc _ _)) | (with_reducible refine Keeps.trans ?_ (Keeps.drew _)) | ((with_reducible refine Blk.atT ?_ ?_ ?_); rfl; (first | rfl | (focus (simp only [World.size_alloc]; done)) | (focus (simp only [World.size_alloc]; omega))); rfl) | (with_reducible refine Blk.alloc ?_ _) | (with_reducible refine Blk.keeps ?_ (Keeps.drew _)) | (with_reducible refine hBK1.out _ _ _ (by decide) ?_))); intro v5 w5 hk5 hr5 hB5; have hR2 := Lib.hid fun (W : World) (h : Keeps w5 W) => hr5.keeps h; have hK2 := Lib.hid fun (W : World) (h : Keeps w5 W) => Keeps.trans hk5 h; have hBK2 := Lib.hid hB5; have hH5 := Lib.hid fun (W : World) (h : Keeps w5 W) => (hBK2.out _ _ _ (by decide) (hH4.out _ (by repeat (first | (with_reducible exact Keeps.refl _) | (with_reducible refine Keeps.trans ?_ (Keeps.alloc _ _)) | (with_reducible refine Keeps.trans ?_ (Keeps.drew _)))))).keeps h; have hS5 := Lib.hid fun (W : World) (h : Keeps w5 W) => hCells (hH5.out W h) (hx.out W (Keeps.trans hk5 h)); clear hr5 hk5 hB5)
                | ((refine stepG (by rfl) _ _ (by rfl) _ (by rfl) _ (by rfl) ?_ (hK2.out _ ?_) (hR2.out _ ?_) hlG.out ?_); (repeat (first | (with_reducible exact Keeps.refl _) | (with_reducible refine Keeps.trans ?_ (Keeps.alloc _ _)) | (with_reducible refine Keeps.trans ?_ (Keeps.drew _)) | ((with_reducible refine Blk.atT ?_ ?_ ?_); rfl; (first | rfl | (focus (simp only [World.size_alloc]; done)) | (focus (simp only [World.size_alloc]; omega))); rfl) | (with_reducible refine Blk.alloc ?_ _) | (with_reducible refine Blk.keeps ?_ (Keeps.drew _)) | (with_reducible refine hBK2.out _ _ _ (by decide) ?_) | (with_reducible refine hBK1.out _ _ _ (by decide) ?_))); intro v6 w6 hk6 hr6 hB6; have hR3 := Lib.hid hr6; have hK3 := Lib.hid hk6; have hBK3 := Lib.hid hB6; have hH6 := Lib.hid fun (W : World) (h : Keeps w6 W) => (hBK3.out _ _ _ (by decide) (hH5.out _ (by repeat (first | (with_reducible exact Keeps.refl _) | (with_reducible refine Keeps.trans ?_ (Keeps.alloc _ _)) | (with_reducible refine Keeps.trans ?_ (Keeps.drew _)))))).keeps h; have hS6 := Lib.hid fun (W : World) (h : Keeps w6 W) => hCells (hH6.out W h) (hx.out W (Keeps.trans hk6 h)); clear hr6 hk6 hB6))
              all_goals (first | (go_meet; exact ⟨la', t ++ [⟨k, gz, (xa, xs), false⟩], ⟨rows_put hR3.out, hnew.out, hK3.out⟩, by rw [List.length_append]; simp; omega⟩) | (go_wp2_with fail; go_meet; exact ⟨la', t ++ [⟨k, gz, (xa, xs), false⟩], ⟨rows_put hR3.out, hnew.out, hK3.out⟩, by rw [List.length_append]; simp; omega⟩))
        · subst hla
          have hrm := room_yes hR.out.ar
          have hz : (la'.filter (·.open)).length = 0 := by
            rw [List.length_eq_zero_iff, List.filter_eq_nil_iff]
            intro s hs
            rw [openAt_none hno s hs]
            decide
          rw [hz] at hrm
          replace hrm := Lib.hid hrm
          clear hz hcase hno
          go_wp2_with fail
          with_reducible refine hrm.out.mono ?_
          rintro e w' ⟨rfl, rfl⟩
          go_wp2_with fail
          go_meet
          exact ⟨la', t, ⟨hR.out, hok.out, hK.out⟩, by omega⟩
      case rest =>
        as_aux_lemma =>
        obtain ⟨la2, t2, hI2, ht2⟩ := hcut
        obtain ⟨tq2, tc2, rfl⟩ := hI2.rows.told.any
        obtain ⟨xq2, xc2, rfl⟩ := hI2.rows.things.any
        obtain ⟨gq2, gc2, rfl⟩ := hI2.rows.gone_any
        rw [List.length_map, List.length_map, List.length_map, List.length_map, List.length_map] at hI2 ⊢
        obtain ⟨W4, hW4⟩ : ∃ W4, W4 = wc := ⟨_, rfl⟩
        rw [← hW4] at hI2 ⊢
        clear hW4 hok hcase hR hK hH hh0 hh1
        have ht20 : (0 : Int) ≤ (t2.length : Int) := by omega
        replace hI2 := Lib.hid hI2
        go_upto_region 20 with (fail)
        go_cut [94] (fun bv wx => (∃ bit : Bool, bv = .bool bit ∧ (bit = true → i < fr.length ∧ 0 < t2.length)) ∧ wx = W4)
        case first =>
          by_cases hif : i < fr.length
          · have hifI : (i : Int) < (fr.length : Int) := by omega
            by_cases htp : 0 < t2.length
            · have htpI : (0 : Int) < (t2.length : Int) := by omega
              go_wp2_with fail
              go_meet
              exact ⟨⟨_, rfl, fun _ => ⟨hif, htp⟩⟩, rfl⟩
            · have htpI : ¬ (0 : Int) < (t2.length : Int) := by omega
              go_wp2_with fail
              go_meet
              exact ⟨⟨_, rfl, fun h => (by simp at h)⟩, rfl⟩
          · have hifI : ¬ (i : Int) < (fr.length : Int) := by omega
            go_wp2_with fail
            go_meet
            exact ⟨⟨_, rfl, fun h => (by simp at h)⟩, rfl⟩
        case rest =>
          obtain ⟨⟨bit, rfl, hbit⟩, hw⟩ := hcut
          subst hw
          replace hbit := Lib.hid hbit
          obtain ⟨W5, hW5⟩ : ∃ W5, W5 = wc := ⟨_, rfl⟩
          rw [← hW5] at hI2 ⊢
          clear hW5
          go_upto_if 94 with fail
          go_cut [] (fun wx => ∃ (la3 : List (Slot El)) (t3 : List (Ent El)), InvF w wx p b la3 t3 (.slice tq2 t2.length tc2) (.slice xq2 t2.length xc2) (.slice gq2 t2.length gc2) ∧ t3.length = t2.length)
          case first =>
            cases bit with
            | false =>
              go_wp2_with fail
              go_meet
              exact ⟨la2, t2, hI2.out, rfl⟩
            | true =>
              obtain ⟨hif, htp⟩ := hbit.out rfl
              have hifI : (i : Int) < (fr.length : Int) := by omega
              have htpI : (0 : Int) < (t2.length : Int) := by omega
              obtain ⟨cf, offf, rfl, hcf⟩ := hfcell.out i hif
              have hcf := (hI2.out.keeps.cell (cell_lt hcf)).trans hcf
              generalize fr[i] = z at *
              obtain ⟨k, hk, ek⟩ := wrap_mod z (t2.length : Int) htpI
              have ew : IntKind.u64.wrap (t2.length : Int) = (t2.length : Int) := by rw [IntKind.wrap_u64]; omega
              have ek2 : IntKind.i64.wrap (k : Int) = (k : Int) := by rw [IntKind.wrap_i64]; omega
              have hk0 : (0 : Int) ≤ (k : Int) := by omega
              have hkt : k < t2.length := by omega
              obtain ⟨tp', tcap, htv, htl2, htc2, htcell⟩ := hI2.out.rows.told.slcs.get
              rw [List.length_map, List.length_map] at htv htl2 htcell
              simp only [Value.slice.injEq] at htv
              obtain ⟨rfl, _, rfl⟩ := htv
              obtain ⟨cb2, off2, rfl, hcj⟩ := htcell k hkt
              have e1 : ((t2.map hOf).map hEl).getD k [] = hEl (hOf t2[k]) := by simp [List.getD, hkt]
              rw [e1] at hcj
              have d0 := hcj 0 (by decide)
              have d1 := hcj 1 (by decide)
              simp only [hEl, hOf, Nat.add_zero, List.getD_cons_zero, List.getD_cons_succ] at d0 d1
              have hl2 : (t2.map fun e : Ent El => e.gone).length = t2.length := List.length_map ..
              obtain ⟨g, rfl, hwg, hnl, hgl, hgc, _⟩ := hI2.out.rows.gone_at (by rw [hl2]; omega)
              rw [hl2] at hgl
              have hB1 := Blk.new W5 34 (hEl (hOf t2[k]))
              have hI5 := hI2.out.kept (Keeps.alloc W5 (.cells (hEl (hOf t2[k])).toArray 34))
              have hplt := hI2.out.rows.ar.hdr.lt
              have hblt := hI2.out.rows.ar.buf.lt
              have hfree := free_any hI5.rows.ar [hOf t2[k]] _ (slcs_one hB1 rfl) (fun c hc _ => by simp [Value.ownBlock] at hc; omega)
              have hfd := fun (W2 : World) hA hC => hI5.freed hwp hwb hwg k hkt (W2 := W2) hA hC
              have hfv := (FindsOk.freed hI2.out.ok k hkt).2
              rw [hfv] at hfree
              obtain ⟨la3, hla3⟩ : ∃ la3, la3 = (freeAll la2 [hOf t2[k]]).1 := ⟨_, rfl⟩
              rw [← hla3] at hfree hfd
              simp only [hEl, hOf] at hfree hfd
              generalize hgone : t2[k].gone = gn at *
              generalize hfe : (if gn = true then (7 : Int) else 0) = fv at *
              generalize t2[k].s = sk at *
              generalize t2[k].g = gk at *
              replace hfree := Lib.hid hfree
              replace hfd := Lib.hid hfd
              replace hl2 := Lib.hid hl2
              have hn0 : ((t2.length : Int) == 0) = false := by rw [beq_eq_false_iff_ne]; omega
              clear htcell e1 hcj hB1 hI5 hfv hgone hnl hla3
              replace hfe := Lib.hid hfe
              go_wp2_with fail
              with_reducible refine hfree.out.mono ?_
              rintro e W6 ⟨rfl, hA, hC⟩
              obtain ⟨hI6, hgcell, hgfz⟩ := hfd.out W6 hA hC
              clear hA hC hfree hfd hn0 ek ek2 ew hcf d0 d1
              replace hI6 := Lib.hid hI6
              cases gn with
              | true =>
                obtain rfl : fv = 7 := hfe.out.symm
                go_wp2_with fail
                go_meet
                exact ⟨_, _, hI6.out, List.length_set ..⟩
              | false =>
                obtain rfl : fv = 0 := hfe.out.symm
                go_wp2_with fail
                go_meet
                exact ⟨_, _, hI6.out, List.length_set ..⟩
          case rest =>
            obtain ⟨la3, t3, hI3, ht3⟩ := hcut
            obtain ⟨W7, hW7⟩ : ∃ W7, W7 = wc := ⟨_, rfl⟩
            rw [← hW7] at hI3 ⊢
            clear hW7 hbit hI2
            rw [← ht3] at hI3 ⊢
            replace hI3 := Lib.hid hI3
            have ht30 : (0 : Int) ≤ (t3.length : Int) := by omega
            have ht3i : t3.length ≤ i + 1 := by omega
            clear ht20 ht2 ht3
            go_wp2_with fail
            go_loopw [18] (fun kv wr => ∃ k : Nat, k ≤ t3.length ∧ kv = .int .i64 (k : Int) ∧ Keeps W7 wr) (fun kv _ => t3.length - (intOf kv).toNat)
            case atStart => exact ⟨0, by omega, rfl, Keeps.refl _⟩
            case round =>
              obtain ⟨k, hk, rfl, hKk⟩ := hrel
              have hk0 : (0 : Int) ≤ (k : Int) := by omega
              by_cases hkt : k < t3.length
              · have hkI : (k : Int) < (t3.length : Int) := by omega
                have hI := hI3.out.kept hKk
                obtain ⟨tp', tcap, htv, _, _, htcell⟩ := hI.rows.told.slcs.get
                rw [List.length_map, List.length_map] at htv htcell
                simp only [Value.slice.injEq] at htv
                obtain ⟨rfl, _, rfl⟩ := htv
                obtain ⟨cb2, off2, rfl, hcj⟩ := htcell k hkt
                have e1 : ((t3.map hOf).map hEl).getD k [] = hEl (hOf t3[k]) := by simp [List.getD, hkt]
                rw [e1] at hcj
                have d0 := hcj 0 (by decide)
                have d1 := hcj 1 (by decide)
                obtain ⟨xp', xcap, hxv, _, _, hxcell⟩ := hI.rows.things.slcs.get
                rw [List.length_map, List.length_map] at hxv hxcell
                simp only [Value.slice.injEq] at hxv
                obtain ⟨rfl, _, rfl⟩ := hxv
                obtain ⟨cb3, off3, rfl, hcx⟩ := hxcell k hkt
                have e2 : ((t3.map fun e : Ent El => e.x).map xCells).getD k [] = xCells t3[k].x := by simp [List.getD, hkt]
                rw [e2] at hcx
                have c0 := hcx 0 (by decide)
                have c1 := hcx 1 (by decide)
                have hl3 : (t3.map fun e : Ent El => e.gone).length = t3.length := List.length_map ..
                obtain ⟨g, rfl, _, hnl, hgl, hgc, hgcell⟩ := hI.rows.gone_at (by rw [hl3]; omega)
                have g0 := (hgcell k (by rw [hl3]; exact hkt)).1
                rw [List.getElem_map] at g0
                rw [hl3] at hgl
                simp only [hEl, xCells, hOf, Nat.add_zero, List.getD_cons_zero, List.getD_cons_succ] at d0 d1 c0 c1
                have hget := get_any hI.rows.ar (t3[k].s : Int) (t3[k].g : Int)
                have hf := hI.ok.find k hkt
                have hgx := FindsOk.getX hI.ok k hkt
                rw [hf] at hget
                generalize ArT.getX la3 (t3[k].s : Int) (t3[k].g : Int) = xg at *
                have hcs : (t3[k].gone = true ∧ (if t3[k].gone = true then (7 : Int) else 0) = 7) ∨ (t3[k].gone = false ∧ (if t3[k].gone = true then (7 : Int) else 0) = 0 ∧ xg = t3[k].x) := by
                  cases hgn : t3[k].gone with
                  | true => exact .inl ⟨rfl, rfl⟩
                  | false => exact .inr ⟨rfl, rfl, hgx hgn⟩
                have hcl := fun (W : World) (h : Keeps wr W) => (show W.cell? _ = _ ∧ W.cell? _ = _ ∧ W.cell? _ = _ from ⟨(h.cell (cell_lt c0)).trans c0, (h.cell (cell_lt c1)).trans c1, (h.cell (cell_lt g0)).trans g0⟩)
                clear hgx hf htcell hxcell hgcell hcj hcx e1 e2 hnl hI
                generalize (if t3[k].gone = true then (7 : Int) else 0) = fv at *
                generalize t3[k].gone = gn at *
                generalize t3[k].s = sk at *
                generalize t3[k].g = gk at *
                generalize t3[k].x = x at *
                obtain ⟨x1, x2⟩ := x
                obtain ⟨y1, y2⟩ := xg
                simp only at c0 c1 hcl
                replace hcs := Lib.hid hcs
                replace hget := Lib.hid hget
                replace hcl := Lib.hid hcl
                replace hKk := Lib.hid hKk
                replace hl3 := Lib.hid hl3
                clear c0 c1 g0
                go_wp2_with fail
                with_reducible refine hget.out.mono ?_
                rintro e W8 ⟨rfl, hK8⟩
                clear hget d0 d1
                simp only [xCells]
                have hB := Blk.new W8 29 (xCells (y1, y2))
                have hK9 := hK8.trans (Keeps.alloc W8 (.cells (xCells (y1, y2)).toArray 29))
                obtain ⟨B, eB⟩ : ∃ B, B = W8.heap.size := ⟨_, rfl⟩
                rw [← eB] at hB
                replace eB := Lib.hid eB
                replace hB := Lib.hid hB
                replace hK9 := Lib.hid hK9
                clear hK8
                go_upto_region 30 with (fail)
                rw [← eB.out]
                refine wp_gen (fun W => Blk W B 29 (xCells (y1, y2)) ∧ Keeps wr W) ⟨hB.out, hK9.out⟩ ?_
                clear hB hK9 eB
                rintro W9 ⟨hB, hK9⟩
                have b0 := hB.cell 0 (by simp [xCells])
                have b1 := hB.cell 1 (by simp [xCells])
                simp only [xCells, List.getElem_cons_zero, List.getElem_cons_succ] at b0 b1
                obtain ⟨c0, c1, g0⟩ := hcl.out W9 hK9
                have hKd := Lib.hid (hKk.out.trans hK9)
                clear hB hK9 hcl hKk
                rcases hcs.out with ⟨rfl, rfl⟩ | ⟨rfl, rfl, he⟩
                · clear hcs
                  go_quiet (fail)
                  rename_i nq
                  go_wp2_with fail
                  go_roundw
                  case rel => exact ⟨k + 1, by omega, by go_num, hKd.out.trans (Keeps.drewN _ _)⟩
                  case measure => (simp [intOf]; try omega)
                · obtain ⟨rfl, rfl⟩ : y1 = x1 ∧ y2 = x2 := by simpa using he
                  clear hcs he
                  go_quiet (fail)
                  rename_i nq
                  go_wp2_with fail
                  go_roundw
                  case rel => exact ⟨k + 1, by omega, by go_num, hKd.out.trans (Keeps.drewN _ _)⟩
                  case measure => (simp [intOf]; try omega)
              · have hkI : ¬ (k : Int) < (t3.length : Int) := by omega
                have hIe := hI3.out.kept hKk
                replace hIe := Lib.hid hIe
                clear hI3 hKk
                go_wp2_with fail
                go_roundw
                case rel => exact ⟨i + 1, la3, t3, by omega, by omega, by go_num, hIe.out, ht3i⟩
                case measure => (simp [intOf]; try omega)
    · have h1I : ¬ (i : Int) < (l.length : Int) ∨ ((i : Int) < (l.length : Int) ∧ ¬ (i : Int) < 60) := by omega
      have hkn := fkn.out wr hI.keeps
      have hKe := hI.keeps
      obtain ⟨tq, tc, rfl⟩ := hI.rows.told.any
      replace hkn := Lib.hid hkn
      replace hKe := Lib.hid hKe
      clear hI hlt fkn
      rcases h1I with h1I | ⟨h1I, h2I⟩
      all_goals
        go_wp2_with fail
        with_reducible refine hkn.out.mono ?_
        rintro e W8 ⟨rfl, hK8⟩
        go_wp2_with fail
        go_ret
        exact ⟨rfl, hKe.out.trans hK8⟩
end Go.Proofs.YtanidaepfepppaaDoor.ArT
