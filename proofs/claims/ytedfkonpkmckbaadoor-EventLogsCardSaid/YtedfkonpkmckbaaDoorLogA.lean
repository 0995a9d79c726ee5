/- A log in memory: Put. -/
import Derived.Test.YtedfkonpkmckbaaDoorEvD
import Derived.Deep.RegionHeld3
import Derived.Maps.AppendAt
namespace Go.Proofs.YtedfkonpkmckbaaDoor
open Go.RowKit

theorem appStepN {P : Program} {w0 : World} {ops : Array Oper} {o : Oper} {a : Act} {K : Act → World → Prop} {Q : Exit → Act → World → Prop} {E : Prop} (hgd : o.guard = none) (s x : Operand) (T e : TypeId) (z0 : Value) (sz bytes : Nat)
    (ho : o.op = .call { callee := .builtin .append, args := #[s, x], argTypes := #[T, T] }) (ht : P.underlying T = some (.slice e)) (hinfo : (P.info? e).map (fun i => (i.zero, i.size, i.bytes)) = some (some z0, sz, bytes)) (hz : z0.cells.size = sz) (hsz : 0 < sz)
    (base : Nat) (v : Value) (els : List (List Value)) (hs : a.eval s = v) (hown : RowS sz base e w0 v els) (ad : Addr) (c : Nat) (news : List (List Value)) (hx : a.eval x = .slice (some ad) news.length c) (hsrc : SlcS sz w0 (.slice (some ad) news.length c) news) (hy : ∀ el ∈ news, ∀ y ∈ el, y.oneCell' = true)
    (h63 : els.length + news.length ≤ maxLen) (hbytes : (els.length + news.length) * bytes ≤ 140737488355328) (hbase : base ≤ w0.heap.size)
    (h : ∀ v' w1, RowS sz base e w1 v' (els ++ news) → w0.grownBy w1 v.ownBlock → Below base w0 w1 → (v'.ownBlock = v.ownBlock ∨ v'.ownBlock = some w0.heap.size) → K (a.put o.dst v') w1) :
    if Region.wanted o (yielded ops a.tmps) = true then Oper.wp P o a w0 K Q else E := by
  have hw : Region.wanted o (yielded ops a.tmps) = true := by simp [Region.wanted, hgd]
  rw [if_pos hw]
  obtain ⟨i0, hi, hz0, hz1, hz2⟩ := info_parts hinfo
  have hns := hsrc.size
  obtain ⟨p', cap, hv, hl, hc, hn, _, hcell⟩ := hsrc
  obtain ⟨rfl, rfl⟩ : some ad = p' ∧ c = cap := by simpa using hv
  have hnews : ∀ j u, news.flatten[j]? = some u → w0.cell? ((some ad).getD ⟨0, 0, none⟩ |>.add j) = some u := by
    intro j u hu
    obtain ⟨hj, rfl⟩ := List.getElem?_eq_some_iff.1 hu
    have hjl : j < news.length * sz := by rw [← flat_len hns]; exact hj
    have hi' : j / sz < news.length := Nat.div_lt_of_lt_mul (by rw [Nat.mul_comm]; exact hjl)
    have hr : j % sz < sz := Nat.mod_lt _ hsz
    have hjj : j / sz * sz + j % sz = j := by rw [Nat.mul_comm]; exact Nat.div_add_mod j sz
    obtain ⟨b, off, hp, hk⟩ := hcell (j / sz) hi'
    simp only [Option.some.injEq] at hp
    subst hp
    show w0.cell? ((⟨b, off, none⟩ : Addr).add j) = _
    have hk' := hk (j % sz) hr
    rw [show off + j / sz * sz + j % sz = off + j by omega] at hk'
    rw [show (⟨b, off, none⟩ : Addr).add j = ⟨b, off + j, none⟩ by unfold Addr.add; split <;> simp_all, hk']
    have hf := flat_get hns (j / sz) (j % sz) hi' hr
    rw [hjj] at hf
    rw [← hf, List.getElem?_eq_getElem hj]
  have hone : ∀ u ∈ news.flatten, u.oneCell' = true := by
    intro u hu
    obtain ⟨el, h1, h2⟩ := List.mem_flatten.1 hu
    exact hy el h1 u h2
  obtain ⟨v', w1, hr, hown', hgrow, _, hat⟩ := run_append_own_at (P := P) w0 base T o.type e i0 z0 sz bytes ht hi hz0 hz1 hz2 hz hsz v els.length els.flatten hown.1 ad news.length c news.flatten (flat_len hns) hnews hone h63 hbytes hbase
  unfold Oper.wp execOp
  simp only [ho, resolve, invoke, builtin, Sem.run_bind, Sem.run_pure, Result.andThen_ok, List.map_toArray, List.map_cons, List.map_nil, hs, hx, hr]
  refine h v' w1 ⟨by rw [List.length_append, List.flatten_append]; exact hown', fun el hel => (List.mem_append.1 hel).elim (hown.2 el) (hns el)⟩ hgrow ((Below.refl base w0).grown hgrow hbase fun j ej => ?_) hat
  rcases hown.1.2 with ⟨rfl, _⟩ | ⟨g, cap, cur, rfl, hb, _, _⟩
  · simp [Value.ownBlock] at ej
  · obtain rfl : g = j := by simpa [Value.ownBlock] using ej
    exact hb
/-- A log at l: its events in a row v of its own (from block m on), how many are lost. -/
structure LogAt (W : World) (m l : Nat) (evs : List EvS) (lost : Int) (v : Value) : Prop where
  hdr : Blk W l 35 [v, .int .i64 lost]
  row : RowS 5 m 28 W v (evs.map evC)
  ne : v.ownBlock ≠ some l
  le : m ≤ l
section
variable {W W' : World} {m l : Nat} {evs : List EvS} {lost : Int} {v : Value}
theorem rowS_chg {sz m : Nat} {e : TypeId} {els : List (List Value)} {D : Nat → Prop} (h : RowS sz m e W v els) (hc : Chg D W W') (h2 : ∀ b, v.ownBlock = some b → ¬ D b) : RowS sz m e W' v els := by
  refine ⟨?_, h.2⟩
  obtain ⟨hl, hr⟩ := h.1
  refine ⟨hl, hr.imp id ?_⟩
  rintro ⟨g, cap, cur, rfl, h3, h4, h5⟩
  exact ⟨g, cap, cur, rfl, h3, (hc.block g (Array.getElem?_eq_some_iff.1 h4).1 (h2 g rfl)).trans h4, h5⟩
theorem LogAt.chg {D : Nat → Prop} (h : LogAt W m l evs lost v) (hc : Chg D W W') (h1 : ¬ D l) (h2 : ∀ b, v.ownBlock = some b → ¬ D b) : LogAt W' m l evs lost v :=
  ⟨h.hdr.chg hc h1, rowS_chg h.row hc h2, h.ne, h.le⟩
theorem LogAt.keeps (h : LogAt W m l evs lost v) (hk : Keeps W W') : LogAt W' m l evs lost v := h.chg (D := fun _ => False) (Chg.of_keeps hk) (fun h => h) (fun _ _ h => h)
theorem LogAt.setLost (h : LogAt W m l evs lost v) (x : Int) : LogAt (W.setCell ⟨l, 1, none⟩ (.int .i64 x)) m l evs x v := by
  have hc : Chg (· = l) W (W.setCell ⟨l, 1, none⟩ (.int .i64 x)) := Chg.setCell _ _ rfl
  exact ⟨h.hdr.set 1 _, rowS_chg h.row hc fun b hb e => h.ne (e ▸ hb), h.ne, h.le⟩
theorem LogAt.lt (h : LogAt W m l evs lost v) : ∀ b, v.ownBlock = some b → b < W.heap.size := by
  intro b hb
  rcases h.row.1.2 with ⟨rfl, _⟩ | ⟨g, cap, cur, rfl, _, h4, _⟩
  · simp [Value.ownBlock] at hb
  · simp [Value.ownBlock] at hb; subst hb; exact (Array.getElem?_eq_some_iff.1 h4).1
theorem LogAt.slice (h : LogAt W m l evs lost v) : ∃ q cap, v = .slice q evs.length cap := by
  obtain ⟨q, cap, hv, _⟩ := h.row.slcs.get
  exact ⟨q, cap, by simpa using hv⟩
end
theorem LogAt.push {W W1 : World} {m l : Nat} {evs : List EvS} {lost : Int} {v v' : Value} {e : EvS} (h : LogAt W m l evs lost v) (hr : RowS 5 m 28 W1 v' (evs.map evC ++ [evC e])) (hg : W.grownBy W1 v.ownBlock) :
    LogAt (W1.setCell ⟨l, 0, none⟩ v') m l (evs ++ [e]) lost v' ∧ Chg (fun b => b = l ∨ v.ownBlock = some b) W (W1.setCell ⟨l, 0, none⟩ v') ∧ W1.frozen? ⟨l, 0, none⟩ = false ∧ W1.cell? ⟨l, 0, none⟩ = some v := by
  have hb : Blk W1 l 35 [v, .int .i64 lost] := h.hdr.kept hg (Ne.symm h.ne)
  have hne : v'.ownBlock ≠ some l := by
    intro e1
    rcases hr.1.2 with ⟨rfl, _⟩ | ⟨g, cap, cur, rfl, _, h4, _⟩
    · simp [Value.ownBlock] at e1
    · obtain rfl : g = l := by simpa [Value.ownBlock] using e1
      have h5 := hb.symm.trans h4
      simp at h5
  have hc : Chg (· = l) W1 (W1.setCell ⟨l, 0, none⟩ v') := Chg.setCell 0 v' rfl
  refine ⟨⟨hb.set 0 v', ?_, hne, h.le⟩, ?_, hb.frozen 0, hb.cell 0 (by simp)⟩
  · rw [List.map_append]
    exact rowS_chg hr hc fun b hb e => hne (e ▸ hb)
  · refine Chg.trans (y := W1) ⟨hg.os, hg.tape, hg.output, hg.size, fun b hb hn => hg.block b hb fun e => hn (.inr e.symm)⟩ (hc.mono fun b _ e => .inl e)
/-- What one event does to a log. -/
def put1 (s : List EvS × Int) (e : EvS) : List EvS × Int := if isKd e.k = false then s else if s.1.length = 4096 then (s.1, s.2 + 1) else (s.1 ++ [e], s.2)
def putS (s : List EvS × Int) (x : List EvS) : List EvS × Int := x.foldl put1 s
theorem infoEv : (Tryd.prog.info? 28).map (fun i => (i.zero, i.size, i.bytes)) = some (some (.agg #[.int .u64 0, .int .i64 0, .int .i64 0, .int .i64 0, .int .u64 0]), 5, 40) := by kernel_rfl
theorem evC_one (e : EvS) : ∀ y ∈ evC e, y.oneCell' = true := by
  intro y hy; simp only [evC, List.mem_cons, List.not_mem_nil, or_false] at hy
  rcases hy with rfl | rfl | rfl | rfl | rfl <;> rfl
theorem put1_len (s : List EvS × Int) (e : EvS) (h : s.1.length ≤ 4096) : (put1 s e).1.length ≤ 4096 := by
  unfold put1
  split
  · exact h
  · split
    · exact h
    · rw [List.length_append]; simp; omega
theorem putS_len : ∀ (x : List EvS) (s : List EvS × Int), s.1.length ≤ 4096 → (putS s x).1.length ≤ 4096
  | [], _, h => h
  | e :: x, s, h => putS_len x (put1 s e) (put1_len s e h)
theorem put1_lost (s : List EvS × Int) (e : EvS) : s.2 ≤ (put1 s e).2 ∧ (put1 s e).2 ≤ s.2 + 1 := by
  unfold put1
  split
  · exact ⟨Int.le_refl _, by omega⟩
  · split
    · exact ⟨by show s.2 ≤ s.2 + 1; omega, Int.le_refl _⟩
    · exact ⟨Int.le_refl _, by show s.2 ≤ s.2 + 1; omega⟩
theorem putS_take (s : List EvS × Int) (x : List EvS) (k : Nat) (h : k < x.length) : putS s (x.take (k + 1)) = put1 (putS s (x.take k)) x[k] := by
  unfold putS
  rw [List.take_succ_eq_append_getElem h, List.foldl_append]; rfl
theorem put1_grow (s : List EvS × Int) (e : EvS) : s.1.length ≤ (put1 s e).1.length := by
  unfold put1
  split
  · exact Nat.le_refl _
  · split
    · exact Nat.le_refl _
    · rw [List.length_append]; omega
theorem putS_grow : ∀ (x : List EvS) (s : List EvS × Int), s.1.length ≤ (putS s x).1.length
  | [], _ => Nat.le_refl _
  | e :: x, s => Nat.le_trans (put1_grow s e) (putS_grow x (put1 s e))
theorem putS_lost : ∀ (x : List EvS) (s : List EvS × Int), s.2 ≤ (putS s x).2 ∧ (putS s x).2 ≤ s.2 + x.length
  | [], _ => ⟨Int.le_refl _, by simp [putS]⟩
  | e :: x, s => by
    have h1 := put1_lost s e
    have h2 := putS_lost x (put1 s e)
    have e1 : putS s (e :: x) = putS (put1 s e) x := rfl
    rw [e1]
    simp only [List.length_cons]
    omega
theorem kcell {w w' : World} {a : Addr} {v : Value} (hk : Keeps w w') (h : w.cell? a = some v) : w'.cell? a = some v := (hk.cell (p := a) (cell_lt h)).trans h
/-- What turns behind may turn blocks that are new, too. -/
theorem chg_then {S T : Nat → Prop} {x y z : World} (h : Chg S x y) (k : Chg T y z) (hST : ∀ b, b < x.heap.size → T b → S b) : Chg S x z :=
  ⟨k.os.trans h.os, k.tape.trans h.tape, k.output.trans h.output, Nat.le_trans h.size k.size, fun b hb hn => (k.block b (Nat.lt_of_lt_of_le hb h.size) fun ht => hn (hST b hb ht)).trans (h.block b hb hn)⟩
/-- The cells of an event's block. -/
theorem evBlk {W : World} {A t n : Nat} {kd a b : Int} (h : Blk W A 28 [.int .u64 (t : Int), .int .i64 kd, .int .i64 a, .int .i64 b, .int .u64 (n : Int)]) :
    W.cell? ⟨A, 0, none⟩ = some (.int .u64 (t : Int)) ∧ W.cell? ⟨A, 1, none⟩ = some (.int .i64 kd) ∧ W.cell? ⟨A, 2, none⟩ = some (.int .i64 a) ∧ W.cell? ⟨A, 3, none⟩ = some (.int .i64 b) ∧ W.cell? ⟨A, 4, none⟩ = some (.int .u64 (n : Int)) :=
  ⟨h.cell 0 (by simp), h.cell 1 (by simp), h.cell 2 (by simp), h.cell 3 (by simp), h.cell 4 (by simp)⟩
end Go.Proofs.YtedfkonpkmckbaaDoor
