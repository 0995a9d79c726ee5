/- The tops: a verified evaluator of the program (DI3). -/
import Derived.Test.YtkfeofhifmebkaaGreatDoorDG
import Derived.Test.YtkfeofhifmebkaaGreatDoorTopLog
namespace Go.Ev
open Go Go.Proofs Go.RowKit Go.Proofs.YtkfeofhifmebkaaGreatDoor

theorem selF_from : ∀ (l : List Ev5) (n j : Nat), (l.zipIdx j).filterMap (fun x => if decide ((n : Int) ≤ ((x.2 : Nat) : Int)) = true then some x.1 else none) = l.drop (n - j) := by
  intro l
  induction l with
  | nil => intro n j; simp
  | cons a l ih =>
    intro n j
    rw [List.zipIdx_cons, List.filterMap_cons]
    dsimp only
    by_cases h : n ≤ j
    · rw [if_pos (by simpa using (by exact_mod_cast h : (n : Int) ≤ (j : Int))), ih]
      have e1 : n - j = 0 := by omega
      have e2 : n - (j + 1) = 0 := by omega
      rw [e1, e2]; simp
    · rw [if_neg (by simpa using (by exact_mod_cast (Nat.lt_of_not_le h) : (j : Int) < (n : Int))), ih]
      have e1 : n - j = (n - (j + 1)) + 1 := by omega
      rw [e1]; simp
theorem selF_drop (l : List Ev5) (n : Nat) : selF (fun k _ => decide ((n : Int) ≤ (k : Int))) l = l.drop n := by
  have h := selF_from l n 0
  rw [Nat.sub_zero] at h
  rw [← h]
  unfold selF
  rw [← List.filterMap_eq_map, List.filterMap_filter]
  rfl

/-- a name for a block that is not told -/
theorem goes_name {P : Program} {E : Env} {ν : Nat → Int} {base : Nat} {σ : Sg} {st : St} {w : World} (h : Sim P E ν base σ st w) (p : Nat × Nat) : Goes P E ν base σ st w (σ.add st.next p) ⟨st.heap, st.next + 1⟩ w := by
  have hle : σ.le (σ.add st.next p) := Sg.le_add _ (h.fresh _ (Nat.le_refl _))
  have ne : ∀ n b, getT st.heap n = some b → n ≠ st.next := fun n b e g => by
    obtain ⟨bl, z, o, q, _⟩ := h.blk n b e
    rw [g, h.fresh _ (Nat.le_refl _)] at q; cases q
  refine ⟨⟨fun n hn => Sg.add_ne _ _ (by omega), by show st.next ≤ st.next + 1; omega, Nat.le_refl _, fun _ _ _ => rfl, fun n c b z e1 e2 => .inl ⟨n, c, z, e1, by rw [Sg.add_ne _ _ (ne n c e1)] at e2; exact e2⟩, rfl, rfl, rfl⟩,
    fun n hn => ?_, fun n b e => ?_, fun n m b c bl z y e1 e2 s1 s2 => ?_, fun g cs e => ?_, h.size⟩
  · have hn : st.next + 1 ≤ n := hn
    rw [Sg.add_ne _ _ (by omega)]; exact h.fresh n (by omega)
  · obtain ⟨bl, z, o, q1, q2, q3, q4⟩ := h.blk n b e
    exact ⟨bl, z, o, hle _ _ q1, q2, q3, q4.mono hle⟩
  · rw [Sg.add_ne _ _ (ne n b e1)] at s1
    rw [Sg.add_ne _ _ (ne m c e2)] at s2
    exact h.inj n m b c bl z y e1 e2 s1 s2
  · obtain ⟨h1, C, t, f, h2, h3⟩ := h.glob g cs e
    exact ⟨h1, C, t, f, h2, h3.mono hle⟩
/-- a new block of the machine's is told -/
theorem goes_tell {P : Program} {E : Env} {ν : Nat → Int} {base : Nat} {σ : Sg} {st st' : St} {w w' : World} (h : Sim P E ν base σ st w) (k : Below w.heap.size w w') {g z : Nat} {o : Obj} {b : AB} (hg : w.heap.size ≤ g) (ho : w'.heap[g]? = some o)
    (hn : st'.next = st.next + 1) (hh : ∀ m, getT st'.heap m = if m = st.next then some b else getT st.heap m) (hb : b.Is P ν (σ.add st.next (g, z)) z o) : Goes P E ν base σ st w (σ.add st.next (g, z)) st' w' := by
  have hk : ∀ (b : Nat) (o : Obj), w.heap[b]? = some o → w'.heap[b]? = some o := fun b o e => by rw [k.block b (Array.getElem?_eq_some_iff.1 e).1]; exact e
  have hle : σ.le (σ.add st.next (g, z)) := Sg.le_add _ (h.fresh _ (Nat.le_refl _))
  have old : ∀ m c, m ≠ st.next → getT st'.heap m = some c → getT st.heap m = some c := fun m c hm e => by rw [hh, if_neg hm] at e; exact e
  have lt : ∀ m c x y, getT st.heap m = some c → σ m = some (x, y) → x < w.heap.size := fun m c x y e1 e2 => by
    obtain ⟨bl, y', o', q1, q2, q3, q4⟩ := h.blk m c e1
    rw [e2] at q1; cases q1
    exact (Array.getElem?_eq_some_iff.1 q3).1
  refine ⟨⟨fun m hm => Sg.add_ne _ _ (by omega), by omega, k.size, fun b hb _ => k.block b hb, fun m c b y hm eb => ?_, k.os, k.tape, k.output⟩,
    fun m hm => ?_, fun m c hm => ?_, fun m j c d x y u hm hj em ej => ?_, fun g cs e => ?_, Nat.le_trans h.size k.size⟩
  · by_cases e : m = st.next
    · subst e; rw [Sg.add_self] at eb; cases eb; exact .inr hg
    · rw [Sg.add_ne _ _ e] at eb; exact .inl ⟨m, c, y, old m c e hm, eb⟩
  · rw [Sg.add_ne _ _ (by omega)]; exact h.fresh m (by omega)
  · by_cases e : m = st.next
    · subst e
      rw [hh, if_pos rfl] at hm; cases hm
      exact ⟨g, z, o, Sg.add_self _ _ _, Nat.le_trans h.size hg, ho, hb⟩
    · obtain ⟨bl, y, x, q1, q2, q3, q4⟩ := h.blk m c (old m c e hm)
      exact ⟨bl, y, x, hle _ _ q1, q2, hk _ _ q3, q4.mono hle⟩
  · by_cases e : m = st.next
    · by_cases e' : j = st.next
      · omega
      · subst e; rw [Sg.add_self] at em; cases em
        rw [Sg.add_ne _ _ e'] at ej
        have := lt j d _ _ (old j d e' hj) ej; omega
    · by_cases e' : j = st.next
      · subst e'; rw [Sg.add_self] at ej; cases ej
        rw [Sg.add_ne _ _ e] at em
        have := lt m c _ _ (old m c e hm) em; omega
      · rw [Sg.add_ne _ _ e] at em; rw [Sg.add_ne _ _ e'] at ej
        exact h.inj m j c d x y u (old m c e hm) (old j d e' hj) em ej
  · obtain ⟨h1, C, t, f, h2, h3⟩ := h.glob g cs e
    exact ⟨h1, C, t, f, hk _ _ h2, h3.mono hle⟩

theorem cells34 : Tryz.prog.cellsOf 34 = 5 := by kernel_rfl
def toEv5 (e : EvT5) : Ev5 := ⟨e.1, e.2.1, e.2.2.1, e.2.2.2.1, e.2.2.2.2⟩
theorem evRow_ev5 (l : List EvT5) : evRow l = ((l.map toEv5).map ev5C).flatten := by
  unfold evRow
  rw [List.map_map]; rfl
theorem flat5 (A : List Ev5) : (A.map ev5C).flatten.length = A.length * 5 := by
  induction A with
  | nil => rfl
  | cons a A ih => simp only [List.map_cons, List.flatten_cons, List.length_append, ih, List.length_cons]; simp [ev5C]; omega
theorem afterN_ok {la : Nat → Nat → Option Nat} {a0 a : Nat} : ∀ {n j i : Nat}, afterN la a0 a n j = some i → la a0 i = some a := by
  intro n
  induction n with
  | zero => intro j i h; cases h
  | succ n ih =>
    intro j i h
    simp only [afterN] at h
    split at h
    · rename_i g
      cases h
      split at g
      · rename_i b hb; rw [hb, Nat.eq_of_beq_eq_true g]
      · cases g
    · exact ih h
theorem afterD_ok {E : Env} {ν : Nat → Int} (hl : LogN ν) {base : Nat} {args : List SV} {st : St} {k : SV → St → R} {fb : Unit → R} {out} (h : afterD.run args st k fb = .ok out) :
    (∃ v st', k v st' = .ok out ∧ CallLands Tryz.prog E ν base 32 args st v st') ∨ fb () = .ok out := by
  have hla : ∀ a j b, rLog a j = some b → ν b = ν a + j ∧ 1 ≤ ν a ∧ ν b ≤ 4096 := fun a j b e => rLog_ok hl e
  unfold afterD at h
  dsimp only at h
  split at h
  case h_2 => exact .inr h
  rename_i kb off n
  split at h
  case h_2 => exact .inr h
  rename_i cs0 t0 hb0
  split at h
  case h_2 => exact .inr h
  rename_i nl L hgl
  rw [getL_eq] at hgl
  split at h
  case h_2 => exact .inr h
  rename_i a0 cs hbl
  split at h
  case h_1 => cases h
  rename_i L' hL'
  split at h
  case h_1 => cases h
  rename_i hLL
  have hLL := Nat.eq_of_beq_eq_true hLL
  subst hLL
  split at h
  case h_1 => cases h
  rename_i hsh
  split at h
  case h_1 => cases h
  rename_i hdv
  have hdv : cs.length / 5 * 5 = cs.length := by
    have := Nat.eq_of_beq_eq_true hdv
    rwa [lenL_eq] at this
  rw [lenL_eq] at hL'
  obtain ⟨q1, q2, q3⟩ := hla _ _ _ hL'
  -- what the machine's After answers
  have key : ∀ σ w (N : Int), Sim Tryz.prog E ν base σ st w → ∃ (q : Nat) (A B : List Ev5) (M : List Value), (∃ z, σ kb = some (q, z)) ∧ ν a0 = (A.length : Int) ∧ B.length = cs.length / 5 ∧ M = (B.map ev5C).flatten ∧ RepL ν σ cs M ∧
      Calls Tryz.prog 32 #[.pointer (some ⟨q, off, none⟩), .int .i64 N] w fun e w' => ∃ u, e = .returned u ∧ RowS 5 w.heap.size 34 w' u ((selF (fun k _ => decide (N ≤ (k : Int))) (A ++ B)).map ev5C) ∧ Keeps w w' := by
    intro σ w N hs
    obtain ⟨q, z, o, k1, k2, k3, C, k4, k5⟩ := hs.blk kb _ hb0
    subst k4
    obtain ⟨V, hV, hR⟩ := k5.get off _ hgl
    simp only [Rep] at hR
    obtain ⟨b, z2, l, c, r1, rfl, r2, r3, r4, r5⟩ := hR
    obtain ⟨b', z', o, m1, m2, m3, C', L1, M, N', m4, m5, m6, m7, m8, m9, m10⟩ := hs.blk nl _ hbl
    rw [r1] at m1; cases m1
    subst m4
    have hc : c = z2 := r5 trivial trivial
    subst hc
    unfold EvCells at m9
    rw [evRow_ev5] at m9
    obtain ⟨m11, m12⟩ := evShape_ok _ cs (Nat.le_refl _) hsh m6
    rw [evRow_ev5] at m11
    generalize (evsOf (ν (logN a0))).map toEv5 = A at m9
    generalize hBB : (evsSV ν cs).map toEv5 = B at m11
    have hBl : B.length = (evsSV ν cs).length := by rw [← hBB, List.length_map]
    rw [cells34] at m7 m8
    have hA : ν a0 = (A.length : Int) := by
      rw [m9, flat5] at m7
      have : ((A.length * 5 : Nat) : Int) = ν a0 * 5 := m7
      omega
    have hB : B.length = cs.length / 5 := by omega
    have hl : l = (A ++ B).length := by
      have : ν L = (l : Int) := r2
      rw [q1, hA] at this
      rw [List.length_append, hB]
      omega
    have hC : w.cell? ⟨q, off, none⟩ = some (.slice (some ⟨b, 0, none⟩) l c) := by
      rw [Array.getElem?_toList] at hV
      simp [World.cell?, k3, hV]
    refine ⟨q, A, B, M, ⟨z, k1⟩, hA, hB, m11, m6, after_any N ⟨hC, ?_⟩ (by rw [← hl]; have : ν L = (l : Int) := r2; omega)⟩
    have hflat : ((A ++ B).map ev5C).flatten = (A.map ev5C).flatten ++ M := by rw [m11]; simp
    refine ⟨⟨?_, .inr ⟨b, c, C', ?_, Nat.zero_le _, m3, ?_, m10, m8, ?_⟩⟩, fun el hel => ?_⟩
    · rw [flat5, List.length_map]
    · rw [List.length_map, ← hl]
    · rw [List.length_map, ← hl]; exact r3
    · rw [List.length_map, hflat, m5, m9, ← List.append_assoc]
      have : (A ++ B).length * 5 = ((A.map ev5C).flatten ++ M).length := by rw [← hflat, flat5]
      rw [this, List.take_left]
    · obtain ⟨e, _, rfl⟩ := List.mem_map.1 hel
      rfl
  split at h
  · -- all of it
    obtain ⟨hp, m⟩ := st
    dsimp only at h
    rw [forceN_eq] at h
    refine .inl ⟨_, _, h, (by exact Tryz.call32), fun σ w Args n R hs hA hR => ?_⟩
    simp only [RepL, Rep, SInt.val] at hA
    obtain ⟨V, Us, e, ⟨q, z, g1, rfl⟩, V2, Us2, rfl, rfl, rfl⟩ := hA
    obtain ⟨q', A, B, M, ⟨z', g2⟩, hA, hB, hM, hcs, hcall⟩ := key σ w 0 hs
    rw [g1] at g2; cases g2
    have e : Args = #[.pointer (some ⟨q, off, none⟩), .int .i64 0] := by rw [← Array.toList_inj, e]; rfl
    subst e
    refine callsIn_wide.2 (hcall.mono ?_)
    rintro e w' ⟨u, rfl, ⟨⟨u1, u2⟩, u3⟩, hK⟩
    have hsel : selF (fun k _ => decide ((0 : Int) ≤ (k : Int))) (A ++ B) = A ++ B := by
      have := selF_drop (A ++ B) 0
      simpa using this
    rw [hsel] at u1 u2
    have hlen : ν L = ((A ++ B).length : Int) := by rw [q1, hA, List.length_append, hB]; simp
    rcases u2 with ⟨rfl, u2⟩ | ⟨g, cap, cur, rfl, u4, u5, u6, u7, u8, u9⟩
    · rw [List.length_map] at u2; omega
    · refine hR (σ.add m (g, cap)) w' _ ((sim_below hs hK).trans (goes_name (sim_below hs hK).2 (g, cap))) ?_
      simp only [Rep]
      exact ⟨g, cap, _, cap, Sg.add_self _ _ _, rfl, by rw [List.length_map]; exact hlen, u6, fun d hd => (nomatch hd), fun _ _ => rfl⟩
  · -- what is told, from a place on
    rename_i a
    split at h
    case h_2 => cases h
    rename_i j hj
    have hj := afterN_ok hj
    obtain ⟨p1, p2, p3⟩ := hla _ _ _ hj
    rw [dropL_eq] at h
    have pre : ∀ σ w (Args : Array Value), Sim Tryz.prog E ν base σ st w → RepL ν σ [.ptr kb off, .int .i64 (.atom a)] Args.toList → ∃ (B : List Ev5), (B.drop j).length = (cs.drop (5 * j)).length / 5 ∧ RepL ν σ (cs.drop (5 * j)) (((B.drop j).map ev5C).flatten) ∧
        Calls Tryz.prog 32 Args w fun e w' => ∃ u, e = .returned u ∧ RowS 5 w.heap.size 34 w' u ((B.drop j).map ev5C) ∧ Keeps w w' := by
      intro σ w Args hs hA
      simp only [RepL, Rep, SInt.val] at hA
      obtain ⟨V, Us, e, ⟨q, z, g1, rfl⟩, V2, Us2, rfl, rfl, rfl⟩ := hA
      obtain ⟨q', A, B, M, ⟨z', g2⟩, hA, hB, hM, hcs, hcall⟩ := key σ w (ν a) hs
      rw [g1] at g2; cases g2
      have e : Args = #[.pointer (some ⟨q, off, none⟩), .int .i64 (ν a)] := by rw [← Array.toList_inj, e]
      subst e
      have ea : ν a = ((A.length + j : Nat) : Int) := by rw [p1, hA]; omega
      rw [ea] at hcall ⊢
      have hsel : selF (fun k _ => decide (((A.length + j : Nat) : Int) ≤ (k : Int))) (A ++ B) = B.drop j := by
        rw [selF_drop, List.drop_append, List.drop_of_length_le (by omega), List.nil_append]
        congr 1; omega
      rw [hsel] at hcall
      refine ⟨B, by rw [List.length_drop, List.length_drop, hB]; omega, ?_, hcall⟩
      have hd := hcs.drop (5 * j)
      rw [hM] at hd
      have e2 : ((B.map ev5C).flatten).drop (5 * j) = ((B.drop j).map ev5C).flatten := by
        by_cases g : j ≤ B.length
        · have e3 : (B.map ev5C).flatten = ((B.take j).map ev5C).flatten ++ ((B.drop j).map ev5C).flatten := by
            rw [← List.flatten_append, ← List.map_append, List.take_append_drop]
          rw [e3, List.drop_append_of_le_length (by rw [flat5, List.length_take]; omega), List.drop_of_length_le (by rw [flat5, List.length_take]; omega), List.nil_append]
        · rw [List.drop_of_length_le (by rw [flat5]; omega), List.drop_of_length_le (by omega)]; rfl
      rw [e2] at hd
      exact hd
    split at h
    · cases h
    · rename_i cs' hne
      obtain ⟨st1, h1, h2, h3⟩ := newK_ok h
      rw [forceN_eq, lenL_eq] at h1
      refine .inl ⟨_, _, h1, (by exact Tryz.call32), fun σ w Args n R hs hA hR => ?_⟩
      obtain ⟨B, hB, hcs, hcall⟩ := pre σ w Args hs hA
      refine callsIn_wide.2 (hcall.mono ?_)
      rintro e w' ⟨u, rfl, ⟨⟨u1, u2⟩, u3⟩, hK⟩
      have hl5 := hcs.length
      rw [flat5] at hl5
      rcases u2 with ⟨rfl, u2⟩ | ⟨g, cap, cur, rfl, u4, u5, u6, u7, u8, u9⟩
      · rw [List.length_map] at u2
        exfalso
        have : cs.drop (5 * j) = [] := List.length_eq_zero_iff.1 (by omega)
        exact hne this
      · refine hR (σ.add st.next (g, cap)) w' _ (goes_tell hs hK u4 u5 h2 h3 ?_) ?_
        · refine ⟨cur, _, cur.toList.drop ((B.drop j).length * 5), rfl, ?_, hcs.mono (Sg.le_add _ (hs.fresh _ (Nat.le_refl _))), by rw [cells34]; exact u8, u7⟩
          rw [List.length_map] at u9
          rw [← u9, List.take_append_drop]
        · simp only [Rep]
          refine ⟨g, cap, _, cap, Sg.add_self _ _ _, rfl, ?_, u6, fun d hd => (nomatch hd), fun _ _ => rfl⟩
          show (((cs.drop (5 * j)).length / 5 : Nat) : Int) = _
          rw [List.length_map, hB]
  · cases h
end Go.Ev
