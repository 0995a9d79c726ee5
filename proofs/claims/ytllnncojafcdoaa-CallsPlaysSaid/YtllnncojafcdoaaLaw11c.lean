/- CallsOnce: the walk. -/
import Derived.Test.YtllnncojafcdoaaLaw11
import Derived.Test.YtllnncojafcdoaaOnceM
namespace Go.Proofs.Ytllnncojafcdoaa
open Go.RowKit RgC

/-- What holds while the law goes: the lists, and its three rows of numbers. -/
structure OI (w : World) (p rb cap : Nat) (pp bb : Nat → Nat) (tb gb lb : Nat) (lst : Int) (R : List (List Cl)) (t g l : Nat → Int) (W : World) : Prop where
  li : LI w p rb cap 4 pp bb lst R W
  bt : Blk W tb 28 (arr 61 t)
  bg : Blk W gb 28 (arr 61 g)
  bl : Blk W lb 29 (arr 4 l)
  st : w.heap.size ≤ tb ∧ w.heap.size ≤ gb ∧ w.heap.size ≤ lb
  nf : ¬ Foot p rb 4 pp bb tb ∧ ¬ Foot p rb 4 pp bb gb ∧ ¬ Foot p rb 4 pp bb lb
  ne : tb ≠ gb ∧ tb ≠ lb ∧ gb ≠ lb
section
variable {w W W' : World} {p rb cap : Nat} {pp bb : Nat → Nat} {tb gb lb : Nat} {lst lst' : Int} {R R' : List (List Cl)} {t g l : Nat → Int}
theorem OI.kept (h : OI w p rb cap pp bb tb gb lb lst R t g l W) (hk : Keeps W W') : OI w p rb cap pp bb tb gb lb lst R t g l W' :=
  ⟨h.li.kept hk, h.bt.keeps hk, h.bg.keeps hk, h.bl.keeps hk, h.st, h.nf, h.ne⟩
theorem OI.chg (h : OI w p rb cap pp bb tb gb lb lst R t g l W) (hl : LI w p rb cap 4 pp bb lst' R' W') (hc : Chg (Foot p rb 4 pp bb) W W') : OI w p rb cap pp bb tb gb lb lst' R' t g l W' :=
  ⟨hl, h.bt.chg hc h.nf.1, h.bg.chg hc h.nf.2.1, h.bl.chg hc h.nf.2.2, h.st, h.nf, h.ne⟩
theorem LI.setOut (h : LI w p rb cap 4 pp bb lst R W) (b k : Nat) (v : Value) (hb : w.heap.size ≤ b) (hn : ¬ Foot p rb 4 pp bb b) : LI w p rb cap 4 pp bb lst R (W.setCell ⟨b, k, none⟩ v) := by
  have hc : Chg (fun x => x = b) W (W.setCell ⟨b, k, none⟩ v) := Chg.setCell k v rfl
  exact ⟨h.at'.chg hc (fun x hx e => hn (e ▸ hx)), h.new, Chg.keeps hc h.keeps (fun x hx e => by subst e; omega)⟩
theorem OI.setT (h : OI w p rb cap pp bb tb gb lb lst R t g l W) (k : Nat) (v : Int) : OI w p rb cap pp bb tb gb lb lst R (upd t k v) g l (W.setCell ⟨tb, k, none⟩ (.int .i64 v)) := by
  refine ⟨h.li.setOut tb k _ h.st.1 h.nf.1, ?_, h.bg.other (Ne.symm h.ne.1) k _, h.bl.other (Ne.symm h.ne.2.1) k _, h.st, h.nf, h.ne⟩
  have := h.bt.set k (.int .i64 v)
  rwa [arr_set] at this
theorem OI.setG (h : OI w p rb cap pp bb tb gb lb lst R t g l W) (k : Nat) (v : Int) : OI w p rb cap pp bb tb gb lb lst R t (upd g k v) l (W.setCell ⟨gb, k, none⟩ (.int .i64 v)) := by
  refine ⟨h.li.setOut gb k _ h.st.2.1 h.nf.2.1, h.bt.other h.ne.1 k _, ?_, h.bl.other (Ne.symm h.ne.2.2) k _, h.st, h.nf, h.ne⟩
  have := h.bg.set k (.int .i64 v)
  rwa [arr_set] at this
theorem OI.setL (h : OI w p rb cap pp bb tb gb lb lst R t g l W) (k : Nat) (v : Int) : OI w p rb cap pp bb tb gb lb lst R t g (upd l k v) (W.setCell ⟨lb, k, none⟩ (.int .i64 v)) := by
  refine ⟨h.li.setOut lb k _ h.st.2.2 h.nf.2.2, h.bt.other h.ne.2.1 k _, h.bg.other h.ne.2.2 k _, ?_, h.st, h.nf, h.ne⟩
  have := h.bl.set k (.int .i64 v)
  rwa [arr_set] at this
theorem OI.cT (h : OI w p rb cap pp bb tb gb lb lst R t g l W) (k : Nat) (hk : k < 61) : W.cell? ⟨tb, k, none⟩ = some (.int .i64 (t k)) := by
  rw [h.bt.cellD k (by rw [arr_len]; exact hk), arr_get 61 t k hk]
theorem OI.cG (h : OI w p rb cap pp bb tb gb lb lst R t g l W) (k : Nat) (hk : k < 61) : W.cell? ⟨gb, k, none⟩ = some (.int .i64 (g k)) := by
  rw [h.bg.cellD k (by rw [arr_len]; exact hk), arr_get 61 g k hk]
theorem OI.cL (h : OI w p rb cap pp bb tb gb lb lst R t g l W) (k : Nat) (hk : k < 4) : W.cell? ⟨lb, k, none⟩ = some (.int .i64 (l k)) := by
  rw [h.bl.cellD k (by rw [arr_len]; exact hk), arr_get 4 l k hk]
theorem OI.start (h : LI w p rb cap 4 pp bb lst R W) (b1 b2 b3 : Nat) (e1 : b1 = W.heap.size) (e2 : b2 = W.heap.size + 1) (e3 : b3 = W.heap.size + 2) :
    OI w p rb cap pp bb b1 b2 b3 lst R (fun _ => 0) (fun _ => 0) (fun _ => 0)
      (((W.alloc (.cells (List.replicate 61 (Value.int .i64 0)).toArray 28)).alloc (.cells (List.replicate 61 (Value.int .i64 0)).toArray 28)).alloc (.cells (List.replicate 4 (Value.int .i64 0)).toArray 29)) := by
  subst e1; subst e2; subst e3
  have hs := h.keeps.size
  have hf := h.at'.foot_lt
  have k1 := Keeps.alloc W (.cells (List.replicate 61 (Value.int .i64 0)).toArray 28)
  generalize hA : W.alloc (.cells (List.replicate 61 (Value.int .i64 0)).toArray 28) = A at *
  have k2 := Keeps.alloc A (.cells (List.replicate 61 (Value.int .i64 0)).toArray 28)
  have sA : A.heap.size = W.heap.size + 1 := by rw [← hA]; exact World.size_alloc _ _
  have bA : Blk A W.heap.size 28 (List.replicate 61 (Value.int .i64 0)) := by rw [← hA]; exact Blk.new _ _ _
  have bB := Blk.new A 28 (List.replicate 61 (Value.int .i64 0))
  generalize hB : A.alloc (.cells (List.replicate 61 (Value.int .i64 0)).toArray 28) = B at *
  have sB : B.heap.size = W.heap.size + 2 := by rw [← hB, World.size_alloc, sA]
  have k3 := Keeps.alloc B (.cells (List.replicate 4 (Value.int .i64 0)).toArray 29)
  have bC := Blk.new B 29 (List.replicate 4 (Value.int .i64 0))
  rw [sA] at bB
  rw [sB] at bC
  rw [← arr_zero] at bA bB bC
  exact ⟨h.kept (Keeps.trans k1 (Keeps.trans k2 k3)), (bA.keeps k2).keeps k3, bB.keeps k3, bC, ⟨by omega, by omega, by omega⟩, ⟨fun hh => by have := hf _ hh; omega, fun hh => by have := hf _ hh; omega, fun hh => by have := hf _ hh; omega⟩, ⟨by omega, by omega, by omega⟩⟩
theorem OI.add1 (h : OI w p rb cap pp bb tb gb lb lst R t g l W) (c : Nat) (hc : c < 4) (id : Int) (sb : Nat) (hsb : sb = W.heap.size) :
    Calls Try.prog 8 #[.pointer (some ⟨p, 0, none⟩), .int .i64 c, .slice (some ⟨sb, 0, none⟩) 1 1] (W.alloc (.cells #[.int .i64 id] 3)) fun e W' => e = .returned (.int .i64 (if 1 ≤ 64 - (R.getD c []).length then 0 else 3)) ∧ OI w p rb cap pp bb tb gb lb lst (R.set c (addR (R.getD c []) [id])) t g l W' := by
  subst hsb
  have h' := h.kept (Keeps.alloc W (.cells #[.int .i64 id] 3))
  refine (ladd_any h'.li.at' c hc _ [id] (ints_new W 3 [id] (by simp [maxLen])) (fun k hk _ hf => ?_)).mono ?_
  · have := h.li.at'.foot_lt k hf
    simp [Value.ownBlock] at hk
    omega
  · rintro e W' ⟨he, ha, hC⟩
    exact ⟨he, h'.chg (h'.li.chg ha hC) hC⟩
theorem OI.close (h : OI w p rb cap pp bb tb gb lb lst R t g l W) (x : Int) (h1 : 1 ≤ x) (h2 : lst ≤ x) : Calls Try.prog 9 #[.pointer (some ⟨p, 0, none⟩), .int .i64 x] W fun e W' => e = .returned (.int .i64 (openC R.flatten : Nat)) ∧ OI w p rb cap pp bb tb gb lb x (closeL x R) t g l W' := by
  refine (lclose_any h.li.at' x h1 h2).mono ?_
  rintro e W' ⟨he, ha, hC⟩
  exact ⟨he, h.chg (h.li.chg ha hC) hC⟩
theorem OI.done (h : OI w p rb cap pp bb tb gb lb lst R t g l W) (x : Int) :
    Calls Try.prog 10 #[.pointer (some ⟨p, 0, none⟩), .int .i64 x] W fun e W' => ∃ v, e = .returned v ∧ W'.ownsRow W.heap.size 3 1 v (tellL x R).length ((tellL x R).map (Value.int .i64)) ∧ OI w p rb cap pp bb tb gb lb lst (R.map (lfL x)) t g l W' := by
  refine (ldone_any h.li.at' x).mono ?_
  rintro e W' ⟨v, he, hr, ha, hC⟩
  exact ⟨v, he, hr, h.chg (h.li.chg ha hC) hC⟩
end
end Go.Proofs.Ytllnncojafcdoaa
