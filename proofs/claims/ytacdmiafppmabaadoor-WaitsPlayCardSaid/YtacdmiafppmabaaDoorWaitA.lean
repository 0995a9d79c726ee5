/- The waits in memory: a map of contexts; For, Contains. -/
import Derived.Test.YtacdmiafppmabaaDoorWaitM
import Derived.Test.YtacdmiafppmabaaDoorStr2
import Derived.Test.YtacdmiafppmabaaDoorMut
import Derived.Test.YtacdmiafppmabaaDoorMaskA
import Derived.Maps.OwnSet
namespace Go.Proofs.YtacdmiafppmabaaDoor
open Go.RowKit Go.Maps

theorem lawK : Keyed Tryd.prog 3 := int_keyed Tryd.underlying3
theorem zeroI (w : World) : (zeroValue 3).run Tryd.prog w = .ok (.int .i64 0) w := by kernel_rfl
abbrev kI (a : Int) : Lit := .int .i64 a
theorem kI_wf {a : Int} (h : -9223372036854775808 ≤ a ∧ a ≤ 9223372036854775807) : (Lit.int .i64 a).wf = true := WalkArith.wf_i64 ⟨by omega, by omega⟩
theorem kI_ne {a b : Int} (h : a ≠ b) : kI a ≠ kI b := fun e => h (by injection e)
/-- Block b is a map of at most n entries that reads as f. -/
def MapOf (w : World) (b n : Nat) (f : WS) : Prop :=
  ∃ D : DataW Unit, w.ownsMap Tryd.prog 3 (plainElem Tryd.prog 3) b n D ∧ ∀ a : Int, -9223372036854775808 ≤ a ∧ a ≤ 9223372036854775807 → Maps.has D (kI a) = whomB f a ∧ D.atKey (kI a) (.lit (.int .i64 0)) = .lit (.int .i64 (whomV f a))
theorem MapOf.lt {w : World} {b n : Nat} {f : WS} (h : MapOf w b n f) : b < w.heap.size := by obtain ⟨D, h, _⟩ := h; exact h.lt
theorem MapOf.same {w w' : World} {b n : Nat} {f : WS} (h : MapOf w b n f) (e : w'.heap[b]? = w.heap[b]?) : MapOf w' b n f := by
  obtain ⟨D, ⟨es, clock, hb, r⟩, k⟩ := h
  exact ⟨D, ⟨es, clock, e.trans hb, r⟩, k⟩
theorem MapOf.keeps {w w' : World} {b n : Nat} {f : WS} (h : MapOf w b n f) (hk : Keeps w w') : MapOf w' b n f := h.same (hk.block b h.lt)
theorem MapOf.chg {w w' : World} {b n : Nat} {f : WS} {T : Nat → Prop} (h : MapOf w b n f) (hc : Chg T w w') (hn : ¬ T b) : MapOf w' b n f := h.same (hc.block b h.lt hn)
theorem MapOf.mono {w : World} {b n m : Nat} {f : WS} (h : MapOf w b n f) (hn : n ≤ m) : MapOf w b m f := by
  obtain ⟨D, h, k⟩ := h
  exact ⟨D, h.mono hn, k⟩
theorem MapOf.made (w : World) : MapOf (w.alloc (.map #[] 0)) w.heap.size 0 wnone :=
  ⟨_, World.ownsMap_made _ _ _ _, fun a _ => ⟨by simp [Maps.has, whomB, whom, wnone], by
    have : whomV wnone a = 0 := by simp [whomV, whom, wnone]
    rw [this]; rfl⟩⟩
/-- What the map tells of a context. -/
theorem MapOf.look {w : World} {b n : Nat} {f : WS} (h : MapOf w b n f) {a : Int} (ha : -9223372036854775808 ≤ a ∧ a ≤ 9223372036854775807) :
    (Instr.lookup 23 (.map (some b)) (.int .i64 a) true).run Tryd.prog w = .ok (.tuple #[.int .i64 (whomV f a), .bool (whomB f a)]) w := by
  obtain ⟨D, h, k⟩ := h
  obtain ⟨k1, k2⟩ := k a ha
  obtain ⟨v, ps, hr, hv⟩ := h.look_ok lawK Tryd.underlying23 (zeroI w) (plainElem_int Tryd.underlying3 (by decide)) (keyOf_int_mk Tryd.underlying3 (kI_wf ha))
  obtain ⟨c, rfl, hc, _⟩ := plainElem_int_inv Tryd.underlying3 hv
  rw [hr, k1]
  have := congrArg Prod.fst hc
  simp only at this
  rw [k2] at this
  simp only [DataW.lit.injEq, Lit.int.injEq, true_and] at this
  rw [this]
theorem nil_look (w : World) {a : Int} (ha : -9223372036854775808 ≤ a ∧ a ≤ 9223372036854775807) :
    (Instr.lookup 23 (.map none) (.int .i64 a) true).run Tryd.prog w = .ok (.tuple #[.int .i64 0, .bool false]) w :=
  Maps.look_nil true lawK Tryd.underlying23 (zeroI w) (keyOf_int_mk Tryd.underlying3 (kI_wf ha))
theorem whomB_upd (f : WS) (a : Nat) (v : Option Nat) (x : Int) : whomB (updW f a v) x = if x = a then v.isSome else whomB f x := by
  unfold whomB whom
  by_cases h0 : 0 ≤ x
  · rw [if_pos h0, if_pos h0]
    by_cases e : x = a
    · subst e; rw [if_pos rfl, Int.toNat_natCast, updW_same]
    · rw [if_neg e, updW_other f v (by omega)]
  · rw [if_neg h0, if_neg h0, if_neg (by omega)]
theorem whomV_upd (f : WS) (a : Nat) (v : Option Nat) (x : Int) : whomV (updW f a v) x = if x = a then (match v with | some b => (b : Int) | none => 0) else whomV f x := by
  unfold whomV whom
  by_cases h0 : 0 ≤ x
  · rw [if_pos h0, if_pos h0]
    by_cases e : x = a
    · subst e; rw [if_pos rfl, Int.toNat_natCast, updW_same]; cases v <;> rfl
    · rw [if_neg e, updW_other f v (by omega)]
  · rw [if_neg h0, if_neg h0, if_neg (by omega)]
/-- 'm[a] = b'. -/
theorem MapOf.put {w : World} {b n : Nat} {f : WS} (h : MapOf w b n f) (hn : n < maxLen) {a c : Nat} (ha : a < 32) (hc : c < 32) :
    ∃ w', (Instr.mapUpdate 23 (.map (some b)) (.int .i64 (a : Int)) (.int .i64 (c : Int))).run Tryd.prog w = .ok () w' ∧ MapOf w' b (n + 1) (updW f a (some c)) ∧ Chg (· = b) w w' := by
  obtain ⟨D, h, k⟩ := h
  obtain ⟨w', h1, h2, h3⟩ := h.store lawK Tryd.underlying23 hn (keyOf_int_mk Tryd.underlying3 (kI_wf (a := (a : Int)) ⟨by omega, by omega⟩)) (plainElem_int (H := Unit) Tryd.underlying3 (kI_wf (a := (c : Int)) ⟨by omega, by omega⟩))
  have hD := h.isMap
  refine ⟨w', h1, ⟨_, h2, fun x hx => ?_⟩, ⟨h3.grown.os, h3.grown.tape, h3.grown.output, h3.grown.size, fun i hi hne => h3.grown.block i hi (fun e => hne (by cases e; rfl))⟩⟩
  obtain ⟨k1, k2⟩ := k x hx
  rw [whomB_upd, whomV_upd]
  by_cases e : x = a
  · subst e
    rw [if_pos rfl, if_pos rfl]
    have hkl := lawK.key (keyOf_int_mk Tryd.underlying3 (kI_wf (a := (a : Int)) ⟨by omega, by omega⟩))
    exact ⟨has_put_same hD hkl _, atKey_put_same hD hkl _ _⟩
  · rw [if_neg e, if_neg e]
    exact ⟨(has_put_other (kI_ne e) _).trans k1, (atKey_put_other (kI_ne e) _ _).trans k2⟩
/-- 'delete(m, a)'. -/
theorem MapOf.del {w : World} {b n : Nat} {f : WS} (h : MapOf w b n f) {a : Nat} (ha : a < 32) (ty : TypeId) :
    ∃ w', (Builtin.delete_ #[23, 3] ty #[.map (some b), .int .i64 (a : Int)]).run Tryd.prog w = .ok (.tuple #[]) w' ∧ MapOf w' b n (updW f a none) ∧ Chg (· = b) w w' := by
  obtain ⟨D, h, k⟩ := h
  obtain ⟨w', h1, h2, h3⟩ := h.drop lawK Tryd.underlying23 (keyOf_int_mk Tryd.underlying3 (kI_wf (a := (a : Int)) ⟨by omega, by omega⟩)) ty
  refine ⟨w', h1, ⟨_, h2, fun x hx => ?_⟩, ⟨h3.grown.os, h3.grown.tape, h3.grown.output, h3.grown.size, fun i hi hne => h3.grown.block i hi (fun e => hne (by cases e; rfl))⟩⟩
  obtain ⟨k1, k2⟩ := k x hx
  rw [whomB_upd, whomV_upd]
  by_cases e : x = a
  · subst e
    rw [if_pos rfl, if_pos rfl]
    exact ⟨has_del_same, atKey_del_same _⟩
  · rw [if_neg e, if_neg e]
    exact ⟨(has_del_other (kI_ne e)).trans k1, (atKey_del_other (kI_ne e) _).trans k2⟩
def MapB (w : World) (p n : Nat) (f : WS) : Option Nat → Prop
  | none => f = wnone
  | some b => b ≠ p ∧ MapOf w b n f
/-- The waits at p, their map in block bo (none: there is none yet), of at most n entries. -/
structure WaitsAt (w : World) (p : Nat) (bo : Option Nat) (n : Nat) (f : WS) : Prop where
  hdr : Blk w p 25 [.map bo]
  map : MapB w p n f bo
  ok : WOk f
section
variable {w w' : World} {p n : Nat} {bo : Option Nat} {f : WS}
/-- The blocks that such waits lie in. -/
def WF (p : Nat) (bo : Option Nat) (k : Nat) : Prop := k = p ∨ bo = some k
theorem WaitsAt.lt (h : WaitsAt w p bo n f) : ∀ k, WF p bo k → k < w.heap.size := by
  rintro k (rfl | hk)
  · exact h.hdr.lt
  · subst hk; exact h.map.2.lt
theorem WaitsAt.chg {T : Nat → Prop} (h : WaitsAt w p bo n f) (hc : Chg T w w') (hn : ∀ k, WF p bo k → ¬ T k) : WaitsAt w' p bo n f := by
  refine ⟨h.hdr.chg hc (hn p (.inl rfl)), ?_, h.ok⟩
  have hm := h.map
  cases bo with
  | none => exact hm
  | some b => exact ⟨hm.1, hm.2.chg hc (hn b (.inr rfl))⟩
theorem WaitsAt.keeps (h : WaitsAt w p bo n f) (hk : Keeps w w') : WaitsAt w' p bo n f := by
  refine ⟨h.hdr.keeps hk, ?_, h.ok⟩
  have hm := h.map
  cases bo with
  | none => exact hm
  | some b => exact ⟨hm.1, hm.2.keeps hk⟩
theorem WaitsAt.below {m : Nat} (h : WaitsAt w p bo n f) (hb : Below m w w') (hn : ∀ k, WF p bo k → k < m) : WaitsAt w' p bo n f := by
  refine ⟨h.hdr.below hb (hn p (.inl rfl)), ?_, h.ok⟩
  have hm := h.map
  cases bo with
  | none => exact hm
  | some b => exact ⟨hm.1, hm.2.same (hb.block b (hn b (.inr rfl)))⟩
theorem WaitsAt.cell (h : WaitsAt w p bo n f) : w.cell? ⟨p, 0, none⟩ = some (.map bo) := h.hdr.cell 0 (by simp)
theorem WaitsAt.look (h : WaitsAt w p bo n f) {a : Int} (ha : -9223372036854775808 ≤ a ∧ a ≤ 9223372036854775807) :
    (Instr.lookup 23 (.map bo) (.int .i64 a) true).run Tryd.prog w = .ok (.tuple #[.int .i64 (whomV f a), .bool (whomB f a)]) w := by
  have hm := h.map
  cases bo with
  | none =>
    obtain rfl := hm
    rw [nil_look w ha]
    simp [whomV, whomB, whom, wnone]
  | some b => exact hm.2.look ha
theorem WaitsAt.start (w : World) : WaitsAt (w.alloc (.cells #[.map none] 25)) w.heap.size none 0 wnone := ⟨Blk.new w _ [.map none], rfl, WOk.start⟩
set_option maxHeartbeats 400000 in
theorem for_nil (a : Int) (w : World) : Calls Tryd.prog 9 #[.pointer none, .int .i64 a] w fun e w' => e = .returned (.tuple #[.int .i64 0, .bool false]) ∧ w = w' := by
  go_enter Tryd.func9, Tryd.ntmps9
  go_wp2
  go_ret2
  exact ⟨rfl, rfl⟩
set_option maxHeartbeats 400000 in
theorem for_any (h : WaitsAt w p bo n f) (a : Int) (ha : -9223372036854775808 ≤ a ∧ a ≤ 9223372036854775807) : Calls Tryd.prog 9 #[.pointer (some ⟨p, 0, none⟩), .int .i64 a] w fun e w' => e = .returned (.tuple #[.int .i64 (whomV f a), .bool (whomB f a)]) ∧ w = w' := by
  have c0 := h.cell
  have hl := h.look ha
  clear h ha
  obtain ⟨V, hV⟩ : ∃ V, V = whomV f a := ⟨_, rfl⟩
  obtain ⟨B, hB⟩ : ∃ B, B = whomB f a := ⟨_, rfl⟩
  rw [← hV, ← hB] at hl ⊢
  clear hV hB
  go_enter Tryd.func9, Tryd.ntmps9
  go_wp2
  go_ret2
  exact ⟨rfl, rfl⟩
end
set_option maxHeartbeats 400000 in
theorem isCtx_any (a : Int) (w : World) : Calls Tryd.prog 27 #[.int .i64 a] w fun e w' => e = .returned (.bool (decide (0 ≤ a ∧ a < 32))) ∧ w = w' := by
  by_cases h0 : 0 ≤ a
  · by_cases h1 : a < 32
    · have e : decide (0 ≤ a ∧ a < 32) = true := decide_eq_true ⟨h0, h1⟩
      rw [e]
      go_enter Tryd.func27, Tryd.ntmps27
      go_wp2
      go_ret
      exact ⟨rfl, rfl⟩
    · have e : decide (0 ≤ a ∧ a < 32) = false := decide_eq_false (by omega)
      rw [e]
      go_enter Tryd.func27, Tryd.ntmps27
      go_wp2
      go_ret
      exact ⟨rfl, rfl⟩
  · have e : decide (0 ≤ a ∧ a < 32) = false := decide_eq_false (by omega)
    rw [e]
    go_enter Tryd.func27, Tryd.ntmps27
    go_wp2
    go_ret
    exact ⟨rfl, rfl⟩
set_option maxHeartbeats 1000000 in
theorem index_any (zs : List Int) (v : Value) (x : Int) (w : World) (hv : Ints w v zs) : Calls Tryd.prog 33 #[v, .int .i64 x] w fun e w' => (∃ i : Int, e = .returned (.int .i64 i) ∧ decide (0 ≤ i) = zs.contains x ∧ i < 9223372036854775807) ∧ w = w' := by
  obtain ⟨q, cap, rfl, hl, hc, hcell⟩ := hv.open
  replace hv := Lib.hid hv
  go_enter Tryd.func33, Tryd.ntmps33
  go_wp2
  go_loopw [8] (fun i wr => ∃ k : Nat, k ≤ zs.length ∧ i = .int .i64 (k : Int) ∧ (zs.take k).contains x = false ∧ wr = w) (fun i _ => zs.length - (intOf i).toNat)
  case atStart => exact ⟨0, Nat.zero_le _, rfl, by simp, rfl⟩
  case round =>
    obtain ⟨k, hk, rfl, hno, rfl⟩ := hrel
    by_cases hlt : k < zs.length
    · have hltI := Int.ofNat_lt.2 hlt
      have hk0 : (0 : Int) ≤ (k : Int) := by omega
      obtain ⟨b, off, rfl, c0⟩ := hcell k hlt
      clear hcell
      by_cases he : x = zs[k]
      · have hyes : zs.contains x = true := by rw [he]; simp
        have hb : (x == zs[k]) = true := by rw [he]; exact beq_self_eq_true _
        replace hyes := Lib.hid hyes
        replace hno := Lib.hid hno
        replace he := Lib.hid he
        go_wp2
        go_ret
        exact ⟨⟨_, rfl, by rw [hyes.out]; exact decide_eq_true hk0, by omega⟩, rfl⟩
      · have hnext : (zs.take (k + 1)).contains x = false := by
          rw [List.take_succ_eq_append_getElem hlt, List.contains_append, hno]
          simpa using he
        have hb : (x == zs[k]) = false := by rw [beq_eq_false_iff_ne]; exact he
        replace hnext := Lib.hid hnext
        replace hno := Lib.hid hno
        replace he := Lib.hid he
        go_wp2
        go_roundw
        case rel => exact ⟨k + 1, by omega, by go_num, hnext.out, trivial⟩
        case measure => (simp [intOf]; try omega)
    · obtain rfl : k = zs.length := by omega
      rw [List.take_of_length_le (Nat.le_refl _)] at hno
      replace hno := Lib.hid hno
      go_wp2
      go_ret
      exact ⟨⟨_, rfl, by rw [hno.out]; rfl, by omega⟩, rfl⟩
set_option maxHeartbeats 400000 in
theorem contains_any (zs : List Int) (v : Value) (x : Int) (w : World) (hv : Ints w v zs) : Calls Tryd.prog 24 #[v, .int .i64 x] w fun e w' => e = .returned (.bool (zs.contains x)) ∧ w = w' := by
  have hi := index_any zs v x w hv
  obtain ⟨q, cap, rfl, hl, hc, hcell⟩ := hv.open
  clear hcell hv
  cases hC : zs.contains x
  all_goals
    rw [hC] at hi
    replace hC := Lib.hid hC
    replace hi := Lib.hid hi
    go_enter Tryd.func24, Tryd.ntmps24
    go_wp2_with fail
    refine hi.out.mono ?_
    rintro e w' ⟨⟨i, rfl, hd, _⟩, rfl⟩
    clear hi
    first
      | have h0 : 0 ≤ i := of_decide_eq_true hd
      | have h0 : ¬ 0 ≤ i := of_decide_eq_false hd
    clear hd
    go_wp2_with fail
    go_ret
    first
      | exact ⟨rfl, rfl⟩
      | exact ⟨ret_bool (decide_eq_false (by omega)), rfl⟩
end Go.Proofs.YtacdmiafppmabaaDoor
