/- The walk of On: on which CPUs a program is. -/
import Derived.Test.YtmjknhjlhnljpaaGuardD
namespace Go.Proofs.Ytmjknhjlhnljpaa
open Go.RowKit Go.Shelf
attribute [local go_sem] Oper.semAt_some

/-- Numbers as integers. -/
def castL (l : List Nat) : List Int := l.map fun (k : Nat) => (k : Int)
theorem castL_snoc (l : List Nat) (x : Nat) : castL (l ++ [x]) = castL l ++ [(x : Int)] := by simp [castL]
/-- On which CPUs a program is, as a word. -/
def onN (ms : List Nat) (n : Int) : Nat := withN 0 (castL (onTo ms n ms.length))
theorem withN_snoc (m : Nat) (l : List Int) (x : Int) : withN m (l ++ [x]) = withN (withN m l) [x] := by simp [withN, List.foldl_append]

set_option maxHeartbeats 400000 in
theorem such_any (q0 : Option Addr) (f0 : Fn) (c0 d0 : Array Value) (q f : Value) (w : World) (hq : q = .pointer q0) (hf : f = .func f0 c0 d0) :
    Calls Try.prog 27 #[q, f] w fun e w' => e = .returned (.func (.func 31) #[] #[.pointer (some ⟨w.heap.size, 0, none⟩), .pointer (some ⟨w.heap.size + 1, 0, none⟩)]) ∧ (w.alloc (.cells #[q] 23)).alloc (.cells #[f] 60) = w' := by
  subst hq hf
  go_enter Try.func27, Try.ntmps27
  go_wp2
  go_ret
  exact ⟨rfl, rfl⟩

/-- On's function as a value. -/
abbrev onFn (B : Nat) : Value := .func (.func 28) #[] #[.pointer (some ⟨B, 0, none⟩)]

set_option maxRecDepth 100000 in
set_option maxHeartbeats 2000000 in
theorem on_any {p b : Nat} {ms cs : List Nat} {w : World} (h : GuardAt w p b ms cs) (n : Int) :
    Calls Try.prog 14 #[.pointer (some ⟨p, 0, none⟩), .int .i64 n] w fun e w' => e = .returned (.int .u64 (onN ms n : Nat)) ∧ Keeps w w' := by
  have hlt := h.lt
  refine (callsIn_wide (n := 9)).1 ?_
  refine callsIn_of_wp_marks Try.func14 rfl trivial ?_ rfl
  simp only [Try.ntmps14, List.size_toArray, List.length_cons, List.length_nil, Nat.reduceAdd, Nat.reduceSub, Array.replicate_succ, Array.replicate_zero, List.push_toArray, List.append_toArray, List.nil_append, List.cons_append]
  gi_wp2_with (refine ⟨trivial, ?_⟩; gi_at_call 27; refine (callsIn_wide.2 (such_any _ _ _ _ _ _ _ rfl rfl)).mono ?_; rintro e w' ⟨rfl, rfl⟩)
  have bN := Boxed.new w 3 (.int .i64 n)
  have bO := Boxed.new (w.alloc (.cells #[.int .i64 n] 3)) 41 (.int .u64 0)
  have bG := Boxed.new ((w.alloc (.cells #[.int .i64 n] 3)).alloc (.cells #[.int .u64 0] 41)) 23 (.pointer (some ⟨p, 0, none⟩))
  have bF := Boxed.new (((w.alloc (.cells #[.int .i64 n] 3)).alloc (.cells #[.int .u64 0] 41)).alloc (.cells #[.pointer (some ⟨p, 0, none⟩)] 23)) 60 (onFn w.heap.size)
  simp only [World.size_alloc] at bO bG bF
  have hB0 : Below (w.alloc (.cells #[.int .i64 n] 3)).heap.size (w.alloc (.cells #[.int .i64 n] 3)) ((((w.alloc (.cells #[.int .i64 n] 3)).alloc (.cells #[.int .u64 0] 41)).alloc (.cells #[.pointer (some ⟨p, 0, none⟩)] 23)).alloc (.cells #[onFn w.heap.size] 60)) :=
    (((Below.refl _ _).alloc (Nat.le_refl _) _).alloc (by simp) _).alloc (by simp) _
  refine iter_ruleB (w.alloc (.cells #[.int .i64 n] 3)) (w.heap.size + 1 + 1 + 1) (gf := 31) (lb := #[.pointer (some ⟨w.heap.size + 1 + 1, 0, none⟩), .pointer (some ⟨w.heap.size + 1 + 1 + 1, 0, none⟩)]) rfl (enters_of Try.func31 (by kernel_rfl) rfl)
    (such_stops (w.heap.size + 1 + 1) (w.heap.size + 1 + 1 + 1) w.heap.size _ p b ms cs n _ (bG.alloc _) bF (((bN.alloc _).alloc _).alloc _) (by simp) (by simp; omega) (by simp; omega) (((h.keeps (Keeps.alloc _ _)).keeps hB0))) (Below.refl _ _) hB0 (fun _ => rfl)
    (fun pre W => Boxed W (w.heap.size + 1) 41 (.int .u64 (withN 0 (castL pre) : Nat)))
    (fun c pre W => False)
    (fun pre => Stays.boxed _ _ _ _)
    (fun c pre => Stays.pure _ _)
    ((bO.alloc _).alloc _)
    ?a1 ?assign ?body ?done ?stop
  case assign =>
    intro l x W K hK
    gi_wp2
    exact hK
  case body =>
    rintro l pre x W hb hlt hv
    have hc := hv.cell
    have hf := hv.frozen
    have hm : withN 0 (castL pre) < 18446744073709551616 := withN_lt _ _ (by decide)
    have hsz := hb.size
    have hvl := hv.lt
    simp only [World.size_alloc] at hsz
    have hz : Ints (W.alloc (.cells #[.int .i64 (x : Int)] 3)) (.slice (some ⟨W.heap.size, 0, none⟩) 1 1) [(x : Int)] := ints_new W 3 [(x : Int)] (by simp [maxLen])
    have hwith := with_any (withN 0 (castL pre)) _ _ _ hm hz
    rw [← withN_snoc, ← castL_snoc] at hwith
    replace hwith := Lib.hid hwith
    replace hsz := Lib.hid hsz
    have hset := (hv.set (.int .u64 (withN 0 (castL (pre ++ [x])) : Nat))).alloc (.cells #[.int .i64 (x : Int)] 3)
    have hbx : ∀ t v, Boxed W (w.heap.size + 1 + 1 + 1) t v → Boxed ((W.setCell ⟨w.heap.size + 1, 0, none⟩ (.int .u64 (withN 0 (castL (pre ++ [x])) : Nat))).alloc (.cells #[.int .i64 (x : Int)] 3)) (w.heap.size + 1 + 1 + 1) t v := fun t v hb => (hb.other (by omega) _).alloc _
    replace hset := Lib.hid hset
    replace hbx := Lib.hid hbx
    clear hm hz
    generalize hm2 : withN 0 (castL (pre ++ [x])) = m2 at *
    replace hm2 := Lib.hid hm2
    generalize withN 0 (castL pre) = m at *
    gi_wp2_with (refine ⟨trivial, ?_⟩; gi_at_call 26; refine (CallsIn.inRound l (callsIn_wide.2 hwith.out)).mono ?_; rintro e w' ⟨rfl, rfl⟩)
    have hbel : Below (w.heap.size + 1) W ((W.setCell ⟨w.heap.size + 1, 0, none⟩ (.int .u64 (m2 : Nat))).alloc (.cells #[.int .i64 (x : Int)] 3)) := ((Below.refl _ W).setCell (p := ⟨w.heap.size + 1, 0, none⟩) (by simp) _).alloc (by simp [World.setCell]; have := hsz.out; omega) _
    exact ⟨⟨((KeepsOthers.setCell _ _ _).trans (KeepsOthers.alloc _ _)).from _, by simpa using hbel, by show Boxed _ _ _ (.int .u64 (withN 0 (castL (pre ++ [x])) : Nat)); rw [hm2.out]; exact hset.out⟩, by simpa using hbel, hbx.out⟩
  case done =>
    rintro D W hD hb hv hK
    have hc := hv.cell
    gi_wp2
    refine ret_marks hK rfl (v := .int .u64 (onN ms n : Nat)) ?_ ⟨rfl, ?_⟩
    · exact results_tmp (fn := Try.f14) rfl _ _ _
    · refine Below.putObj ((Keeps.alloc w _).trans (hb.mono (by simp))) _ (by simp at hD; omega) hK
  case stop =>
    rintro D c pre W hD hpre hb h hK
    exact h.elim
end Go.Proofs.Ytmjknhjlhnljpaa
