/- The tops: a verified evaluator of the program (PL). -/
import Derived.Test.YtkfeofhifmebkaaGreatDoorPI3
import Derived.Test.YtkfeofhifmebkaaGreatDoorTopLog
namespace Go.Ev
open Go Go.Proofs Go.RowKit Go.Proofs.YtkfeofhifmebkaaGreatDoor

theorem selF_from : ∀ (l : List Ev5) (n j : Nat), (l.zipIdx j).filterMap (fun x => if decide ((n : Int) ≤ ((x.2 : Nat) : Int)) = true then some x.1 else none) = l.drop (n - j) := by
  intro l
  induction l with
  | nil => intro n j; simp
  | cons a l ih =>
    intro n j
    rw [List.zipIdx_cons, List.filterMap_cons]
    dsimp only
    by_cases h : n ≤ j
    · rw [if_pos (by simpa using (by exact_mod_cast h : (n : Int) ≤ (j : Int))), ih]
      have e1 : n - j = 0 := by omega
      have e2 : n - (j + 1) = 0 := by omega
      rw [e1, e2]; simp
    · rw [if_neg (by simpa using (by exact_mod_cast (Nat.lt_of_not_le h) : (j : Int) < (n : Int))), ih]
      have e1 : n - j = (n - (j + 1)) + 1 := by omega
      rw [e1]; simp
theorem selF_drop (l : List Ev5) (n : Nat) : selF (fun k _ => decide ((n : Int) ≤ (k : Int))) l = l.drop n := by
  have h := selF_from l n 0
  rw [Nat.sub_zero] at h
  rw [← h]
  unfold selF
  rw [← List.filterMap_eq_map, List.filterMap_filter]
  rfl

/-- a name for a block that is not told -/
theorem goes_name {P : Program} {E : Env} {ν : Nat → Int} {base : Nat} {σ : Sg} {st : St} {w : World} (h : Sim P E ν base σ st w) (p : Nat × Nat) : Goes P E ν base σ st w (σ.add st.next p) ⟨st.heap, st.next + 1⟩ w := by
  have hle : σ.le (σ.add st.next p) := Sg.le_add _ (h.fresh _ (Nat.le_refl _))
  have ne : ∀ n b, getT st.heap n = some b → n ≠ st.next := fun n b e g => by
    obtain ⟨bl, z, o, q, _⟩ := h.blk n b e
    rw [g, h.fresh _ (Nat.le_refl _)] at q; cases q
  refine ⟨⟨fun n hn => Sg.add_ne _ _ (by omega), by show st.next ≤ st.next + 1; omega, Nat.le_refl _, fun _ _ _ => rfl, fun n c b z e1 e2 => .inl ⟨n, c, z, e1, by rw [Sg.add_ne _ _ (ne n c e1)] at e2; exact e2⟩, rfl, rfl, rfl⟩,
    fun n hn => ?_, fun n b e => ?_, fun n m b c bl z y e1 e2 s1 s2 => ?_, fun g cs e => ?_, h.size⟩
  · have hn : st.next + 1 ≤ n := hn
    rw [Sg.add_ne _ _ (by omega)]; exact h.fresh n (by omega)
  · obtain ⟨bl, z, o, q1, q2, q3, q4⟩ := h.blk n b e
    exact ⟨bl, z, o, hle _ _ q1, q2, q3, q4.mono hle⟩
  · rw [Sg.add_ne _ _ (ne n b e1)] at s1
    rw [Sg.add_ne _ _ (ne m c e2)] at s2
    exact h.inj n m b c bl z y e1 e2 s1 s2
  · obtain ⟨h1, C, t, f, h2, h3⟩ := h.glob g cs e
    exact ⟨h1, C, t, f, h2, h3.mono hle⟩
/-- a new block of the machine's is told -/
theorem goes_tell {P : Program} {E : Env} {ν : Nat → Int} {base : Nat} {σ : Sg} {st st' : St} {w w' : World} (h : Sim P E ν base σ st w) (k : Below w.heap.size w w') {g z : Nat} {o : Obj} {b : AB} (hg : w.heap.size ≤ g) (ho : w'.heap[g]? = some o)
    (hn : st'.next = st.next + 1) (hh : ∀ m, getT st'.heap m = if m = st.next then some b else getT st.heap m) (hb : b.Is P ν (σ.add st.next (g, z)) z o) : Goes P E ν base σ st w (σ.add st.next (g, z)) st' w' := by
  have hk : ∀ (b : Nat) (o : Obj), w.heap[b]? = some o → w'.heap[b]? = some o := fun b o e => by rw [k.block b (Array.getElem?_eq_some_iff.1 e).1]; exact e
  have hle : σ.le (σ.add st.next (g, z)) := Sg.le_add _ (h.fresh _ (Nat.le_refl _))
  have old : ∀ m c, m ≠ st.next → getT st'.heap m = some c → getT st.heap m = some c := fun m c hm e => by rw [hh, if_neg hm] at e; exact e
  have lt : ∀ m c x y, getT st.heap m = some c → σ m = some (x, y) → x < w.heap.size := fun m c x y e1 e2 => by
    obtain ⟨bl, y', o', q1, q2, q3, q4⟩ := h.blk m c e1
    rw [e2] at q1; cases q1
    exact (Array.getElem?_eq_some_iff.1 q3).1
  refine ⟨⟨fun m hm => Sg.add_ne _ _ (by omega), by omega, k.size, fun b hb _ => k.block b hb, fun m c b y hm eb => ?_, k.os, k.tape, k.output⟩,
    fun m hm => ?_, fun m c hm => ?_, fun m j c d x y u hm hj em ej => ?_, fun g cs e => ?_, Nat.le_trans h.size k.size⟩
  · by_cases e : m = st.next
    · subst e; rw [Sg.add_self] at eb; cases eb; exact .inr hg
    · rw [Sg.add_ne _ _ e] at eb; exact .inl ⟨m, c, y, old m c e hm, eb⟩
  · rw [Sg.add_ne _ _ (by omega)]; exact h.fresh m (by omega)
  · by_cases e : m = st.next
    · subst e
      rw [hh, if_pos rfl] at hm; cases hm
      exact ⟨g, z, o, Sg.add_self _ _ _, Nat.le_trans h.size hg, ho, hb⟩
    · obtain ⟨bl, y, x, q1, q2, q3, q4⟩ := h.blk m c (old m c e hm)
      exact ⟨bl, y, x, hle _ _ q1, q2, hk _ _ q3, q4.mono hle⟩
  · by_cases e : m = st.next
    · by_cases e' : j = st.next
      · omega
      · subst e; rw [Sg.add_self] at em; cases em
        rw [Sg.add_ne _ _ e'] at ej
        have := lt j d _ _ (old j d e' hj) ej; omega
    · by_cases e' : j = st.next
      · subst e'; rw [Sg.add_self] at ej; cases ej
        rw [Sg.add_ne _ _ e] at em
        have := lt m c _ _ (old m c e hm) em; omega
      · rw [Sg.add_ne _ _ e] at em; rw [Sg.add_ne _ _ e'] at ej
        exact h.inj m j c d x y u (old m c e hm) (old j d e' hj) em ej
  · obtain ⟨h1, C, t, f, h2, h3⟩ := h.glob g cs e
    exact ⟨h1, C, t, f, hk _ _ h2, h3.mono hle⟩

theorem cells34 : Tryz.prog.cellsOf 34 = 5 := by kernel_rfl
def toEv5 (e : EvT5) : Ev5 := ⟨e.1, e.2.1, e.2.2.1, e.2.2.2.1, e.2.2.2.2⟩
theorem evRow_ev5 (l : List EvT5) : evRow l = ((l.map toEv5).map ev5C).flatten := by
  unfold evRow
  rw [List.map_map]; rfl
theorem flat5 (A : List Ev5) : (A.map ev5C).flatten.length = A.length * 5 := by
  induction A with
  | nil => rfl
  | cons a A ih => simp only [List.map_cons, List.flatten_cons, List.length_append, ih, List.length_cons]; simp [ev5C]; omega
/-- (*event.Log).After(13), of a log that is told by numbers -/
noncomputable def after13I : IX := ⟨fun args st k fb => match args with
  | [.ptr kb off, .int .i64 n] => match beqSI n (.lit (.ofNat 13)) with
    | true => match getT st.heap kb with
      | some (.cells cs0 _) => match getL cs0 off with
        | some (.slc nl 0 (.atom 5000) Option.none) => match getT st.heap nl with
          | some (.log 5000 [] 34) => newK st (.log 6000 [] 34) fun m st => k (.slc m 0 (.atom 6000) Option.none) st
          | _ => fb ()
        | _ => fb ()
      | _ => fb ()
    | false => fb ()
  | _ => fb ()⟩
structure NuA (ν : Nat → Int) : Prop where
  len : ∃ l : Nat, ν 5000 = (l : Int) ∧ 13 < l ∧ l ≤ 4096 ∧ ν 6000 = ((l - 13 : Nat) : Int)
  evs : evsOf (ν (logN 6000)) = (evsOf (ν (logN 5000))).drop 13
theorem after13I_ok {E : Env} {ν : Nat → Int} (hν : NuA ν) {base : Nat} {args : List SV} {st : St} {k : SV → St → R} {fb : Unit → R} {out} (h : after13I.run args st k fb = .ok out) :
    (∃ v st', k v st' = .ok out ∧ CallLands Tryz.prog E ν base 32 args st v st') ∨ fb () = .ok out := by
  unfold after13I at h
  dsimp only at h
  split at h
  case h_2 => exact .inr h
  rename_i kb off n
  split at h
  case h_2 => exact .inr h
  rename_i hn
  have hn := beqSI_ok hn
  subst hn
  split at h
  case h_2 => exact .inr h
  rename_i cs0 t0 hb0
  split at h
  case h_2 => exact .inr h
  rename_i nl hgl
  rw [getL_eq] at hgl
  split at h
  case h_2 => exact .inr h
  rename_i hbl
  obtain ⟨l, q1, q2, q3, q4⟩ := hν.len
  have key : ∀ σ w (Args : Array Value), Sim Tryz.prog E ν base σ st w → RepL ν σ [.ptr kb off, .int .i64 (.lit (.ofNat 13))] Args.toList → (evsOf (ν (logN 5000))).length = l ∧
      Calls Tryz.prog 32 Args w fun e w' => ∃ u, e = .returned u ∧ RowS 5 w.heap.size 34 w' u ((((evsOf (ν (logN 5000))).map toEv5).drop 13).map ev5C) ∧ Keeps w w' := by
    intro σ w Args hs hA
    simp only [RepL, Rep, SInt.val] at hA
    obtain ⟨V0, Us0, e, ⟨q, z, g1, rfl⟩, V2, Us2, rfl, rfl, rfl⟩ := hA
    have e : Args = #[.pointer (some ⟨q, off, none⟩), .int .i64 13] := by rw [← Array.toList_inj, e]; rfl
    subst e
    obtain ⟨q', z', o, k1, k2, k3, C, k4, k5⟩ := hs.blk kb _ hb0
    rw [g1] at k1; cases k1
    subst k4
    obtain ⟨V, hV, hR⟩ := k5.get off _ hgl
    simp only [Rep, SInt.val] at hR
    obtain ⟨b, z2, l', c, r1, rfl, r2, r3, r4, r5⟩ := hR
    obtain ⟨b', z'', o, m1, m2, m3, C', L, M, N', m4, m5, m6, m7, m8, m9, m10⟩ := hs.blk nl _ hbl
    rw [r1] at m1; cases m1
    subst m4
    have hc : c = z2 := r5 trivial trivial
    subst hc
    have hM : M = [] := by simp only [RepL] at m6; exact m6
    subst hM
    unfold EvCells at m9
    rw [evRow_ev5] at m9
    rw [cells34] at m7 m8
    generalize hEE : (evsOf (ν (logN 5000))).map toEv5 = A at m9 ⊢
    have hlA : A.length = (evsOf (ν (logN 5000))).length := by rw [← hEE, List.length_map]
    have hA : A.length = l := by
      rw [m9, flat5, q1] at m7
      have : ((A.length * 5 : Nat) : Int) = (l : Int) * 5 := m7
      omega
    have hl : l' = A.length := by rw [q1] at r2; omega
    have hC : w.cell? ⟨q, off, none⟩ = some (.slice (some ⟨b, 0, none⟩) l' c) := by
      rw [Array.getElem?_toList] at hV
      simp [World.cell?, k3, hV]
    have hsel : selF (fun k _ => decide ((13 : Int) ≤ (k : Int))) A = A.drop 13 := selF_drop A 13
    rw [← hsel]
    refine ⟨by omega, after_any 13 ⟨hC, ?_⟩ (by omega)⟩
    refine ⟨⟨?_, .inr ⟨b, c, C', ?_, Nat.zero_le _, m3, ?_, m10, m8, ?_⟩⟩, fun el hel => ?_⟩
    · rw [flat5, List.length_map]
    · rw [List.length_map, ← hl]
    · rw [List.length_map, ← hl]; exact r3
    · rw [List.length_map, m5, m9]
      have : A.length * 5 = ((A.map ev5C).flatten).length := (flat5 A).symm
      rw [this, List.nil_append, List.take_left]
    · obtain ⟨e, _, rfl⟩ := List.mem_map.1 hel
      rfl
  obtain ⟨st1, h1, h2, h3⟩ := newK_ok h
  refine .inl ⟨_, _, h1, (by exact Tryz.call32), fun σ w Args n R hs hA hR => ?_⟩
  obtain ⟨hlen, hcall⟩ := key σ w Args hs hA
  refine callsIn_wide.2 (hcall.mono ?_)
  rintro e w' ⟨u, rfl, ⟨⟨u1, u2⟩, u3⟩, hK⟩
  have hl13 := q2
  have hdl : (((evsOf (ν (logN 5000))).map toEv5).drop 13).length = l - 13 := by rw [List.length_drop, List.length_map, hlen]
  rcases u2 with ⟨rfl, u2⟩ | ⟨g, cap, cur, rfl, u4, u5, u6, u7, u8, u9⟩
  · rw [List.length_map, hdl] at u2; omega
  · refine hR (σ.add st.next (g, cap)) w' _ (goes_tell hs hK u4 u5 h2 h3 ?_) ?_
    · rw [List.length_map] at u9
      refine ⟨cur, evRow (evsOf (ν (logN 6000))), [], cur.toList.drop ((evRow (evsOf (ν (logN 6000)))).length), rfl, ?_, RepL.nil, ?_, by rw [cells34]; exact u8, rfl, u7⟩
      · have e2 : evRow (evsOf (ν (logN 6000))) = cur.toList.take ((evRow (evsOf (ν (logN 6000)))).length) := by
          rw [hν.evs, evRow_ev5, List.map_drop]
          rw [flat5]
          exact u9.symm
        rw [List.nil_append]
        conv => lhs; rw [← List.take_append_drop (evRow (evsOf (ν (logN 6000)))).length cur.toList]
        rw [← e2]
      · rw [hν.evs, evRow_length, cells34, q4, List.length_drop, hlen]
        omega
    · simp only [Rep]
      refine ⟨g, cap, _, cap, Sg.add_self _ _ _, rfl, ?_, u6, fun d hd => (nomatch hd), fun _ _ => rfl⟩
      show ν 6000 = _
      rw [List.length_map, hdl]; exact q4
end Go.Ev
