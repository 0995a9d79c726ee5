/- The tops: a verified evaluator of the program (KL). -/
import Derived.Test.YtkfeofhifmebkaaGreatDoorKJ
import Derived.Test.YtkfeofhifmebkaaGreatDoorEvD
import Derived.Test.YtkfeofhifmebkaaGreatDoorTopLog
namespace Go.Ev
open Go Go.Proofs Go.RowKit Go.Proofs.YtkfeofhifmebkaaGreatDoor

theorem selF_from : ∀ (l : List Ev5) (n j : Nat), (l.zipIdx j).filterMap (fun x => if decide ((n : Int) ≤ ((x.2 : Nat) : Int)) = true then some x.1 else none) = l.drop (n - j) := by
  intro l
  induction l with
  | nil => intro n j; simp
  | cons a l ih =>
    intro n j
    rw [List.zipIdx_cons, List.filterMap_cons]
    dsimp only
    by_cases h : n ≤ j
    · rw [if_pos (by simpa using (by exact_mod_cast h : (n : Int) ≤ (j : Int))), ih]
      have e1 : n - j = 0 := by omega
      have e2 : n - (j + 1) = 0 := by omega
      rw [e1, e2]; simp
    · rw [if_neg (by simpa using (by exact_mod_cast (Nat.lt_of_not_le h) : (j : Int) < (n : Int))), ih]
      have e1 : n - j = (n - (j + 1)) + 1 := by omega
      rw [e1]; simp
theorem selF_drop (l : List Ev5) (n : Nat) : selF (fun k _ => decide ((n : Int) ≤ (k : Int))) l = l.drop n := by
  have h := selF_from l n 0
  rw [Nat.sub_zero] at h
  rw [← h]
  unfold selF
  rw [← List.filterMap_eq_map, List.filterMap_filter]
  rfl

/-- a name for a block that is not told -/
theorem goes_name {P : Program} {E : Env} {ν : Nat → Int} {base : Nat} {σ : Sg} {st : St} {w : World} (h : Sim P E ν base σ st w) (p : Nat × Nat) : Goes P E ν base σ st w (σ.add st.next p) ⟨st.heap, st.next + 1⟩ w := by
  have hle : σ.le (σ.add st.next p) := Sg.le_add _ (h.fresh _ (Nat.le_refl _))
  have ne : ∀ n b, getT st.heap n = some b → n ≠ st.next := fun n b e g => by
    obtain ⟨bl, z, o, q, _⟩ := h.blk n b e
    rw [g, h.fresh _ (Nat.le_refl _)] at q; cases q
  refine ⟨⟨fun n hn => Sg.add_ne _ _ (by omega), by show st.next ≤ st.next + 1; omega, Nat.le_refl _, fun _ _ _ => rfl, fun n c b z e1 e2 => .inl ⟨n, c, z, e1, by rw [Sg.add_ne _ _ (ne n c e1)] at e2; exact e2⟩, rfl, rfl, rfl⟩,
    fun n hn => ?_, fun n b e => ?_, fun n m b c bl z y e1 e2 s1 s2 => ?_, fun g cs e => ?_, h.size⟩
  · have hn : st.next + 1 ≤ n := hn
    rw [Sg.add_ne _ _ (by omega)]; exact h.fresh n (by omega)
  · obtain ⟨bl, z, o, q1, q2, q3, q4⟩ := h.blk n b e
    exact ⟨bl, z, o, hle _ _ q1, q2, q3, q4.mono hle⟩
  · rw [Sg.add_ne _ _ (ne n b e1)] at s1
    rw [Sg.add_ne _ _ (ne m c e2)] at s2
    exact h.inj n m b c bl z y e1 e2 s1 s2
  · obtain ⟨h1, C, t, f, h2, h3⟩ := h.glob g cs e
    exact ⟨h1, C, t, f, h2, h3.mono hle⟩
/-- a new block of the machine's is told -/
theorem goes_tell {P : Program} {E : Env} {ν : Nat → Int} {base : Nat} {σ : Sg} {st st' : St} {w w' : World} (h : Sim P E ν base σ st w) (k : Below w.heap.size w w') {g z : Nat} {o : Obj} {b : AB} (hg : w.heap.size ≤ g) (ho : w'.heap[g]? = some o)
    (hn : st'.next = st.next + 1) (hh : ∀ m, getT st'.heap m = if m = st.next then some b else getT st.heap m) (hb : b.Is P ν (σ.add st.next (g, z)) z o) : Goes P E ν base σ st w (σ.add st.next (g, z)) st' w' := by
  have hk : ∀ (b : Nat) (o : Obj), w.heap[b]? = some o → w'.heap[b]? = some o := fun b o e => by rw [k.block b (Array.getElem?_eq_some_iff.1 e).1]; exact e
  have hle : σ.le (σ.add st.next (g, z)) := Sg.le_add _ (h.fresh _ (Nat.le_refl _))
  have old : ∀ m c, m ≠ st.next → getT st'.heap m = some c → getT st.heap m = some c := fun m c hm e => by rw [hh, if_neg hm] at e; exact e
  have lt : ∀ m c x y, getT st.heap m = some c → σ m = some (x, y) → x < w.heap.size := fun m c x y e1 e2 => by
    obtain ⟨bl, y', o', q1, q2, q3, q4⟩ := h.blk m c e1
    rw [e2] at q1; cases q1
    exact (Array.getElem?_eq_some_iff.1 q3).1
  refine ⟨⟨fun m hm => Sg.add_ne _ _ (by omega), by omega, k.size, fun b hb _ => k.block b hb, fun m c b y hm eb => ?_, k.os, k.tape, k.output⟩,
    fun m hm => ?_, fun m c hm => ?_, fun m j c d x y u hm hj em ej => ?_, fun g cs e => ?_, Nat.le_trans h.size k.size⟩
  · by_cases e : m = st.next
    · subst e; rw [Sg.add_self] at eb; cases eb; exact .inr hg
    · rw [Sg.add_ne _ _ e] at eb; exact .inl ⟨m, c, y, old m c e hm, eb⟩
  · rw [Sg.add_ne _ _ (by omega)]; exact h.fresh m (by omega)
  · by_cases e : m = st.next
    · subst e
      rw [hh, if_pos rfl] at hm; cases hm
      exact ⟨g, z, o, Sg.add_self _ _ _, Nat.le_trans h.size hg, ho, hb⟩
    · obtain ⟨bl, y, x, q1, q2, q3, q4⟩ := h.blk m c (old m c e hm)
      exact ⟨bl, y, x, hle _ _ q1, q2, hk _ _ q3, q4.mono hle⟩
  · by_cases e : m = st.next
    · by_cases e' : j = st.next
      · omega
      · subst e; rw [Sg.add_self] at em; cases em
        rw [Sg.add_ne _ _ e'] at ej
        have := lt j d _ _ (old j d e' hj) ej; omega
    · by_cases e' : j = st.next
      · subst e'; rw [Sg.add_self] at ej; cases ej
        rw [Sg.add_ne _ _ e] at em
        have := lt m c _ _ (old m c e hm) em; omega
      · rw [Sg.add_ne _ _ e] at em; rw [Sg.add_ne _ _ e'] at ej
        exact h.inj m j c d x y u (old m c e hm) (old j d e' hj) em ej
  · obtain ⟨h1, C, t, f, h2, h3⟩ := h.glob g cs e
    exact ⟨h1, C, t, f, hk _ _ h2, h3.mono hle⟩

theorem cells34 : Tryz.prog.cellsOf 34 = 5 := by kernel_rfl
/-- what the log holds, of a block of a state -/
theorem log_evs {L M : List Value} (h : EvCells L) (k : EvCells M) : ∃ A B : List Ev5, L = (A.map ev5C).flatten ∧ M = (B.map ev5C).flatten := by
  obtain ⟨E, rfl⟩ := h
  obtain ⟨F, rfl⟩ := k
  refine ⟨E.map fun e => ⟨e.1, e.2.1, e.2.2.1, e.2.2.2.1, e.2.2.2.2⟩, F.map fun e => ⟨e.1, e.2.1, e.2.2.1, e.2.2.2.1, e.2.2.2.2⟩, ?_, ?_⟩ <;>
  · rw [List.map_map]; rfl
theorem flat5 (A : List Ev5) : (A.map ev5C).flatten.length = A.length * 5 := by
  induction A with
  | nil => rfl
  | cons a A ih => simp only [List.map_cons, List.flatten_cons, List.length_append, ih, List.length_cons]; simp [ev5C]; omega

/-- (*event.Log).After, of a log whose beginning is not told: all of it, or what is told -/
noncomputable def afterI (la : Nat → Nat → Option Nat) : IX := ⟨fun args st k fb => match args with
  | [.ptr kb off, .int .i64 n] => match getT st.heap kb with
    | some (.cells cs0 _) => match getL cs0 off with
      | some (.slc nl 0 (.atom L) Option.none) => match getT st.heap nl with
        | some (.log a0 cs 34) => match la a0 (lenL cs / 5) with
          | Option.none => .err "after length"
          | some L' => match Nat.beq L L' with
            | false => .err "after length"
            | true => match evShape cs with
              | false => .err "after events"
              | true => match Nat.beq (lenL cs / 5 * 5) (lenL cs) with
                | false => .err "after cells"
                | true => match n with
                  | .lit (.ofNat 0) => match st with
                    | ⟨h, m⟩ => forceN (Nat.succ m) fun m' => k (.slc m 0 (.atom L) Option.none) ⟨h, m'⟩
                  | .atom a => match Nat.beq a a0 with
                    | false => .err "after place"
                    | true => match cs with
                      | [] => .err "after nothing"
                      | _ => newK st (.vec cs 34) fun m st => forceN (lenL cs / 5) fun l => k (.slc m 0 (.lit (.ofNat l)) Option.none) st
                  | _ => .err "after place"
        | _ => fb ()
      | _ => fb ()
    | _ => fb ()
  | _ => fb ()⟩
theorem afterI_ok {E : Env} {ν : Nat → Int} {la : Nat → Nat → Option Nat} (hla : ∀ a j b, la a j = some b → ν b = ν a + j ∧ 1 ≤ ν a ∧ ν b ≤ 4096) {base : Nat} {args : List SV} {st : St} {k : SV → St → R} {fb : Unit → R} {out} (h : (afterI la).run args st k fb = .ok out) :
    (∃ v st', k v st' = .ok out ∧ CallLands Tryz.prog E ν base 32 args st v st') ∨ fb () = .ok out := by
  unfold afterI at h
  dsimp only at h
  split at h
  case h_2 => exact .inr h
  rename_i kb off n
  split at h
  case h_2 => exact .inr h
  rename_i cs0 t0 hb0
  split at h
  case h_2 => exact .inr h
  rename_i nl L hgl
  rw [getL_eq] at hgl
  split at h
  case h_2 => exact .inr h
  rename_i a0 cs hbl
  split at h
  case h_1 => cases h
  rename_i L' hL'
  split at h
  case h_1 => cases h
  rename_i hLL
  have hLL := Nat.eq_of_beq_eq_true hLL
  subst hLL
  split at h
  case h_1 => cases h
  rename_i hsh
  split at h
  case h_1 => cases h
  rename_i hdv
  have hdv : cs.length / 5 * 5 = cs.length := by
    have := Nat.eq_of_beq_eq_true hdv
    rwa [lenL_eq] at this
  rw [lenL_eq] at hL'
  obtain ⟨q1, q2, q3⟩ := hla _ _ _ hL'
  -- what the machine's After answers
  have key : ∀ σ w (N : Int), Sim Tryz.prog E ν base σ st w → ∃ (q : Nat) (A B : List Ev5) (M : List Value), (∃ z, σ kb = some (q, z)) ∧ ν a0 = (A.length : Int) ∧ B.length = cs.length / 5 ∧ M = (B.map ev5C).flatten ∧ RepL ν σ cs M ∧
      Calls Tryz.prog 32 #[.pointer (some ⟨q, off, none⟩), .int .i64 N] w fun e w' => ∃ u, e = .returned u ∧ RowS 5 w.heap.size 34 w' u ((selF (fun k _ => decide (N ≤ (k : Int))) (A ++ B)).map ev5C) ∧ Keeps w w' := by
    intro σ w N hs
    obtain ⟨q, z, o, k1, k2, k3, C, k4, k5⟩ := hs.blk kb _ hb0
    subst k4
    obtain ⟨V, hV, hR⟩ := k5.get off _ hgl
    simp only [Rep] at hR
    obtain ⟨b, z2, l, c, r1, rfl, r2, r3, r4, r5⟩ := hR
    obtain ⟨b', z', o', m1, m2, m3, C', L, M, N', m4, m5, m6, m7, m8, m9, m10⟩ := hs.blk nl _ hbl
    rw [r1] at m1; cases m1
    subst m4
    have hc : c = z2 := r5 trivial trivial
    subst hc
    obtain ⟨A, B, rfl, hM⟩ := log_evs m9 (evShape_ok _ cs (Nat.le_refl _) hsh m6)
    rw [cells34] at m7 m8
    have hA : ν a0 = (A.length : Int) := by
      rw [flat5] at m7
      have : ((A.length * 5 : Nat) : Int) = ν a0 * 5 := m7
      omega
    have hB : B.length = cs.length / 5 := by
      have := m6.length
      rw [hM, flat5] at this
      omega
    have hl : l = (A ++ B).length := by
      have : ν L = (l : Int) := r2
      rw [q1, hA] at this
      rw [List.length_append, hB]
      omega
    have hC : w.cell? ⟨q, off, none⟩ = some (.slice (some ⟨b, 0, none⟩) l c) := by
      rw [Array.getElem?_toList] at hV
      simp [World.cell?, k3, hV]
    refine ⟨q, A, B, M, ⟨z, k1⟩, hA, hB, hM, m6, after_any N ⟨hC, ?_⟩ (by rw [← hl]; have : ν L = (l : Int) := r2; omega)⟩
    have hflat : ((A ++ B).map ev5C).flatten = (A.map ev5C).flatten ++ M := by rw [hM]; simp
    refine ⟨⟨?_, .inr ⟨b, c, C', ?_, Nat.zero_le _, m3, ?_, m10, m8, ?_⟩⟩, fun el hel => ?_⟩
    · rw [flat5, List.length_map]
    · rw [List.length_map, ← hl]
    · rw [List.length_map, ← hl]; exact r3
    · rw [List.length_map, hflat, m5, ← List.append_assoc]
      have : (A ++ B).length * 5 = ((A.map ev5C).flatten ++ M).length := by rw [← hflat, flat5]
      rw [this, List.take_left]
    · obtain ⟨e, _, rfl⟩ := List.mem_map.1 hel
      rfl
  split at h
  · -- all of it
    obtain ⟨hp, m⟩ := st
    dsimp only at h
    rw [forceN_eq] at h
    refine .inl ⟨_, _, h, (by exact Tryz.call32), fun σ w Args n R hs hA hR => ?_⟩
    simp only [RepL, Rep, SInt.val] at hA
    obtain ⟨V, Us, e, ⟨q, z, g1, rfl⟩, V2, Us2, rfl, rfl, rfl⟩ := hA
    obtain ⟨q', A, B, M, ⟨z', g2⟩, hA, hB, hM, hcs, hcall⟩ := key σ w 0 hs
    rw [g1] at g2; cases g2
    have e : Args = #[.pointer (some ⟨q, off, none⟩), .int .i64 0] := by rw [← Array.toList_inj, e]; rfl
    subst e
    refine callsIn_wide.2 (hcall.mono ?_)
    rintro e w' ⟨u, rfl, ⟨⟨u1, u2⟩, u3⟩, hK⟩
    have hsel : selF (fun k _ => decide ((0 : Int) ≤ (k : Int))) (A ++ B) = A ++ B := by
      have := selF_drop (A ++ B) 0
      simpa using this
    rw [hsel] at u1 u2
    have hlen : ν L = ((A ++ B).length : Int) := by rw [q1, hA, List.length_append, hB]; simp
    rcases u2 with ⟨rfl, u2⟩ | ⟨g, cap, cur, rfl, u4, u5, u6, u7, u8, u9⟩
    · rw [List.length_map] at u2; omega
    · refine hR (σ.add m (g, cap)) w' _ ((sim_below hs hK).trans (goes_name (sim_below hs hK).2 (g, cap))) ?_
      simp only [Rep]
      exact ⟨g, cap, _, cap, Sg.add_self _ _ _, rfl, by rw [List.length_map]; exact hlen, u6, fun d hd => (nomatch hd), fun _ _ => rfl⟩
  · -- what is told
    rename_i a
    split at h
    case h_1 => cases h
    rename_i haa
    have haa := Nat.eq_of_beq_eq_true haa
    subst haa
    have pre : ∀ σ w (Args : Array Value), Sim Tryz.prog E ν base σ st w → RepL ν σ [.ptr kb off, .int .i64 (.atom a)] Args.toList → ∃ (B : List Ev5) (M : List Value), B.length = cs.length / 5 ∧ M = (B.map ev5C).flatten ∧ RepL ν σ cs M ∧
        Calls Tryz.prog 32 Args w fun e w' => ∃ u, e = .returned u ∧ RowS 5 w.heap.size 34 w' u (B.map ev5C) ∧ Keeps w w' := by
      intro σ w Args hs hA
      simp only [RepL, Rep, SInt.val] at hA
      obtain ⟨V, Us, e, ⟨q, z, g1, rfl⟩, V2, Us2, rfl, rfl, rfl⟩ := hA
      obtain ⟨q', A, B, M, ⟨z', g2⟩, hA, hB, hM, hcs, hcall⟩ := key σ w (ν a) hs
      rw [g1] at g2; cases g2
      have e : Args = #[.pointer (some ⟨q, off, none⟩), .int .i64 (ν a)] := by rw [← Array.toList_inj, e]
      subst e
      rw [hA] at hcall
      have hsel : selF (fun k _ => decide ((A.length : Int) ≤ (k : Int))) (A ++ B) = B := by rw [selF_drop]; simp
      rw [hsel] at hcall
      rw [hA]
      exact ⟨B, M, hB, hM, hcs, hcall⟩
    split at h
    · cases h
    · obtain ⟨st1, h1, h2, h3⟩ := newK_ok h
      rw [forceN_eq, lenL_eq] at h1
      refine .inl ⟨_, _, h1, (by exact Tryz.call32), fun σ w Args n R hs hA hR => ?_⟩
      obtain ⟨B, M, hB, hM, hcs, hcall⟩ := pre σ w Args hs hA
      refine callsIn_wide.2 (hcall.mono ?_)
      rintro e w' ⟨u, rfl, ⟨⟨u1, u2⟩, u3⟩, hK⟩
      rename_i hne
      rcases u2 with ⟨rfl, u2⟩ | ⟨g, cap, cur, rfl, u4, u5, u6, u7, u8, u9⟩
      · rw [List.length_map, hB] at u2
        exfalso
        have : cs = [] := List.length_eq_zero_iff.1 (by omega)
        exact hne this
      · refine hR (σ.add st.next (g, cap)) w' _ (goes_tell hs hK u4 u5 h2 h3 ?_) ?_
        · refine ⟨cur, M, cur.toList.drop (B.length * 5), rfl, ?_, hcs.mono (Sg.le_add _ (hs.fresh _ (Nat.le_refl _))), by rw [cells34]; exact u8, u7⟩
          rw [List.length_map] at u9
          rw [hM, ← u9, List.take_append_drop]
        · simp only [Rep]
          refine ⟨g, cap, _, cap, Sg.add_self _ _ _, rfl, ?_, u6, fun d hd => (nomatch hd), fun _ _ => rfl⟩
          show ((cs.length / 5 : Nat) : Int) = _
          rw [List.length_map, hB]
  · cases h
end Go.Ev
namespace Go.Ev
open Go
noncomputable section
/-- what is known of the numbers in a run: the address, what the pages are, what becomes of the deed -/
structure Cs where
  useA : Bool
  a : Nat
  ps : List (Option Nat)
  lt60 : Option Bool
  ltd : Option Bool
  lt40 : Option Bool
  kd : Option Nat
  r : Option Nat
  on : Option Bool
  hi : Nat
  g48 : Option Bool
def at9 (c : Cs) (x : SInt) : SInt := match x with
  | .atom i => match c.useA with
    | true => match Nat.beq i 9 with
      | true => .lit (.ofNat c.a)
      | false => x
    | false => x
  | _ => x
def litO (k : IntKind) (n : Option Nat) : Option SV := match n with
  | some n => some (.int k (.lit (.ofNat n)))
  | none => none
def boolO (b : Option Bool) : Option SV := match b with
  | some b => some (.bool b)
  | none => none
/-- an operation on numbers that are small and not below 0 -/
def natOp (op : BinOp) (k : IntKind) (a b : Nat) : Option SV := match op with
  | .add => match k with
    | .i64 => match Nat.ble (a + b) 1000000 with
      | true => some (.int .i64 (.lit (.ofNat (a + b))))
      | false => none
    | _ => none
  | .sub => match k with
    | .i64 => match Nat.ble b a with
      | true => match Nat.ble a 1000000 with
        | true => some (.int .i64 (.lit (.ofNat (a - b))))
        | false => none
      | false => none
    | _ => none
  | .quo => match k with
    | .i64 => match Nat.ble a 1000000 with
      | true => match b with
        | 0 => none
        | b + 1 => some (.int .i64 (.lit (.ofNat (a / (b + 1)))))
      | false => none
    | _ => none
  | .rem => match b with
    | 0 => none
    | b + 1 => some (.int k (.lit (.ofNat (a % (b + 1)))))
  | .lss => some (.bool (Nat.blt a b))
  | .leq => some (.bool (Nat.ble a b))
  | .gtr => some (.bool (Nat.blt b a))
  | .geq => some (.bool (Nat.ble b a))
  | .eql => some (.bool (Nat.beq a b))
  | .neq => match Nat.beq a b with
    | true => some (.bool false)
    | false => some (.bool true)
  | _ => none
/-- the bytes from the address on: which word of the two, and which byte of it -/
def byteOf (c : Cs) (i : Nat) : Option Nat := match c.useA with
  | true => match Nat.ble (100 + c.a) i with
    | true => match Nat.blt i (116 + c.a) with
      | true => match Nat.blt i 164 with
        | true => some (i - (100 + c.a))
        | false => none
      | false => none
    | false => none
  | false => match Nat.ble 300 i with
    | true => match Nat.blt i 316 with
      | true => some (i - 300)
      | false => none
    | false => none
/-- where a word's last byte stands, or the memory's -/
def lastB (i x : Nat) : Bool := match Nat.beq (x % 8) 7 with
  | true => true
  | false => Nat.beq i 163
def isByte (i : Nat) : Bool := match Nat.ble 100 i with
  | true => Nat.blt i 164
  | false => false
/-- bytes -/
def isSmall (i : Nat) : Bool := match isByte i with
  | true => true
  | false => match Nat.ble 300 i with
    | true => Nat.blt i 316
    | false => false
def cmpP (op : BinOp) (s v : Nat) : Option SV := match op with
  | .eql => some (.bool (Nat.beq s v))
  | .neq => match Nat.beq s v with
    | true => some (.bool false)
    | false => some (.bool true)
  | _ => none
def getO (l : List (Option Nat)) (n : Nat) : Option Nat := match getL l n with
  | some v => v
  | none => none
/-- a byte shifted to its place -/
def symShl (c : Cs) (i n : Nat) : Option SV := match byteOf c i with
  | some x => match Nat.beq n (8 * (x % 8)) with
    | true => match n with
      | 0 => some (.int .u64 (.atom i))
      | _ => some (.int .u64 (.atom (440 + x)))
    | false => none
  | none => none
/-- an atom with a number -/
def symAL (c : Cs) (op : BinOp) (k : IntKind) (i n : Nat) : Option SV := match op with
  | .eql => match Nat.ble 5000 i with
    | true => match Nat.beq n 4096 with
      | true => match Nat.blt i 5100 with
        | true => some (.bool false)
        | false => none
      | false => none
    | false => match Nat.ble 10 i with
      | true => match Nat.ble i 13 with
        | true => match getO c.ps (i - 10) with
          | some s => cmpP op s n
          | none => none
        | false => none
      | false => none
  | .neq => match Nat.ble 10 i with
    | true => match Nat.ble i 13 with
      | true => match getO c.ps (i - 10) with
        | some s => cmpP op s n
        | none => none
      | false => none
    | false => none
  | .rem => match Nat.beq i 46 with
    | true => match Nat.beq n 7 with
      | true => litO k c.kd
      | false => none
    | false => match Nat.beq i 47 with
      | true => match Nat.beq n 4 with
        | true => some (.int k (.atom 57))
        | false => none
      | false => match Nat.beq i 48 with
        | true => match Nat.beq n 64 with
          | true => some (.int k (.atom 58))
          | false => none
        | false => match Nat.beq i 3 with
          | true => match Nat.beq n 2 with
            | true => litO k c.r
            | false => none
          | false => match Nat.beq i 5 with
            | true => match Nat.beq n 4 with
              | true => some (.int k (.atom 63))
              | false => none
            | false => match Nat.beq i 2 with
              | true => match Nat.beq n 70 with
                | true => some (.int k (.atom 9))
                | false => none
              | false => none
  | .quo => match Nat.beq i 3 with
    | true => match Nat.beq n 2 with
      | true => some (.int k (.atom 5))
      | false => none
    | false => none
  | .add => match Nat.beq i 3 with
    | true => match Nat.beq n 1 with
      | true => some (.int k (.atom 4))
      | false => none
    | false => match Nat.beq i 52 with
      | true => match Nat.beq n 1 with
        | true => match k with
          | .i64 => some (.int .i64 (.atom 53))
          | _ => none
        | false => none
      | false => match Nat.beq i 9 with
        | true => match Nat.beq n 8 with
          | true => some (.int k (.atom 19))
          | false => none
        | false => none
  | .lss => match Nat.beq i 3 with
    | true => match Nat.beq n 60 with
      | true => boolO c.lt60
      | false => match Nat.beq n 40 with
        | true => boolO c.lt40
        | false => none
    | false => match Nat.beq i 51 with
      | true => match Nat.beq n 0 with
        | true => some (.bool false)
        | false => none
      | false => none
  | .gtr => match Nat.beq i 9 with
    | true => match Nat.beq n 48 with
      | true => boolO c.g48
      | false => match Nat.beq n 1073741824 with
        | true => some (.bool false)
        | false => none
    | false => match Nat.beq i 51 with
      | true => match Nat.ble c.hi n with
        | true => some (.bool false)
        | false => none
      | false => none
  | .mul => match k with
    | .u64 => match Nat.beq n 256 with
      | true => match byteOf c i with
        | some x => match lastB i x with
          | true => match Nat.beq (x % 8) 0 with
            | true => none
            | false => some (.int .u64 (.atom (420 + x)))
          | false => none
        | none => match Nat.ble 400 i with
          | true => match Nat.blt i 416 with
            | true => match Nat.beq (i % 8) 0 with
              | true => none
              | false => some (.int .u64 (.atom (i + 20)))
            | false => none
          | false => none
      | false => none
    | _ => none
  | _ => none
/-- two atoms -/
def symAA (c : Cs) (op : BinOp) (k : IntKind) (i j : Nat) : Option SV := match op with
  | .lss => match Nat.beq i 3 with
    | true => match Nat.beq j 35 with
      | true => boolO c.ltd
      | false => none
    | false => none
  | .eql => match Nat.beq i j with
    | true => some (.bool true)
    | false => match Nat.beq i 54 with
      | true => match Nat.beq j 51 with
        | true => boolO c.on
        | false => none
      | false => none
  | .neq => match Nat.beq i j with
    | true => some (.bool false)
    | false => none
  | .sub => match Nat.ble 5000 j with
    | true => match Nat.ble j i with
      | true => match Nat.blt i 5100 with
        | true => some (.int k (.lit (.ofNat (i - j))))
        | false => none
      | false => none
    | false => none
  | .add => match Nat.ble 420 i with
    | true => match Nat.blt i 436 with
      | true => match byteOf c j with
        | some x => match Nat.beq (x + 1) (i - 420) with
          | true => match Nat.beq (x % 8) 7 with
            | true => none
            | false => match k with
              | .u64 => some (.int .u64 (.atom (400 + x)))
              | _ => none
          | false => none
        | none => none
      | false => none
    | false => none
  | .or => match c.useA with
    | true => none
    | false => match Nat.ble 440 j with
      | true => match Nat.blt j 456 with
        | true => match j - 440 with
          | 0 => none
          | y + 1 => match Nat.beq (y % 8) 7 with
            | true => none
            | false => match Nat.beq i (match Nat.beq (y % 8) 0 with | true => 300 + y | false => 460 + y) with
              | true => match k with
                | .u64 => some (.int .u64 (.atom (match Nat.beq (y % 8) 6 with | true => 400 + (y - 6) | false => 461 + y)))
                | _ => none
              | false => none
        | false => none
      | false => none
  | _ => none
def cSym0 (c : Cs) (op : BinOp) (k : IntKind) (x : SInt) (y : SInt) : Option SV := match at9 c x with
  | .lit a => match at9 c y with
    | .lit b => match a with
      | .ofNat a => match b with
        | .ofNat b => natOp op k a b
        | _ => none
      | _ => none
    | .atom i => match a with
      | .ofNat 0 => match op with
        | .add => match isSmall i with
          | true => some (.int k (.atom i))
          | false => none
        | .or => match isSmall i with
          | true => some (.int k (.atom i))
          | false => none
        | _ => none
      | _ => none
  | .atom i => match at9 c y with
    | .lit b => match b with
      | .ofNat n => symAL c op k i n
      | _ => none
    | .atom l => symAA c op k i l
def cSym (c : Cs) (op : BinOp) (k : IntKind) (x : SInt) (j : IntKind) (y : SInt) : Option SV := match op with
  | .shl => match x with
    | .atom i => match y with
      | .lit b => match b with
        | .ofNat n => match k with
          | .u64 => symShl c i n
          | _ => none
        | _ => none
      | _ => none
    | _ => none
  | .shr => none
  | _ => match eqK2 k j with
    | false => none
    | true => match k with
      | .i64 => cSym0 c op .i64 x y
      | .u64 => cSym0 c op .u64 x y
      | _ => none
def cConv (_ : Cs) (k _j : IntKind) (x : SInt) : Option SV := match x with
  | .atom i => match Nat.beq i 1 with
    | true => match k with
      | .u64 => some (.int .u64 (.atom 2))
      | _ => none
    | false => match Nat.beq i 9 with
      | true => match k with
        | .u64 => some (.int .u64 (.atom 9))
        | .i64 => some (.int .i64 (.atom 9))
        | _ => none
      | false => match Nat.beq i 39 with
        | true => match k with
          | .u8 => some (.int .u8 (.atom 50))
          | _ => none
        | false => match k with
          | .i64 => match Nat.beq i 57 with
            | true => some (.int .i64 (.atom 59))
            | false => match Nat.beq i 58 with
              | true => some (.int .i64 (.atom 62))
              | false => none
          | .u64 => match Nat.beq i 36 with
            | true => some (.int .u64 (.atom 46))
            | false => match Nat.beq i 37 with
              | true => some (.int .u64 (.atom 47))
              | false => match Nat.beq i 38 with
                | true => some (.int .u64 (.atom 48))
                | false => match isSmall i with
                  | true => some (.int .u64 (.atom i))
                  | false => match Nat.beq i 51 with
                    | true => some (.int .u64 (.atom 51))
                    | false => none
          | _ => none
  | .lit _ => none
/-- the lengths of the log -/
def cLog (a j : Nat) : Option Nat := match Nat.ble 5000 a with
  | true => match Nat.blt (a + j) 5100 with
    | true => some (a + j)
    | false => none
  | false => none
end
end Go.Ev
namespace Go.Ev
open Go Go.Proofs
/-- the number of n bytes from s on, the lowest first -/
def wordN (m : Nat → Nat) : Nat → Nat → Nat
  | _, 0 => 0
  | s, n + 1 => m s + 256 * wordN m (s + 1) n
/-- the memory's bytes, and zeros behind them -/
def memB (m : Nat → Nat) (j : Nat) : Nat := if j < 64 then m j else 0
/-- what the atoms of a run stand for -/
structure NuOk (c : Cs) (m : Nat → Nat) (ν : Nat → Int) : Prop where
  a70 : c.a < 70
  nine : ν 9 = c.a
  addr8 : ν 19 = c.a + 8
  rem70 : (ν 2).tmod 70 = ν 9
  raw2 : ν 2 = IntKind.wrap .u64 (ν 1)
  ps : ∀ p s, p < 4 → getO c.ps p = some s → ν (10 + p) = s
  on : ∀ b, c.on = some b → b = decide (ν 54 = ν 51)
  hi : 0 ≤ ν 51 ∧ ν 51 ≤ c.hi ∧ c.hi ≤ 63
  byte : ∀ j, j < 64 → ν (100 + j) = m j ∧ m j < 256
  row : ∀ j, j < 16 → ν (300 + j) = memB m (c.a + j) ∧ memB m (c.a + j) < 256
  part : ∀ x, x < 16 → ν (400 + x) = wordN (memB m) (c.a + x) (8 - x % 8)
  part2 : ∀ x, x < 16 → ν (420 + x) = 256 * wordN (memB m) (c.a + x) (8 - x % 8)
  shl : ∀ x, x < 16 → ν (440 + x) = memB m (c.a + x) * 2 ^ (8 * (x % 8))
  low : ∀ x, x < 16 → x % 8 ≠ 0 → x % 8 ≠ 7 → ν (460 + x) = wordN (memB m) (c.a + (x - x % 8)) (x % 8 + 1)
  i60 : ν 3 < 1000 ∧ 0 ≤ ν 3
  i1 : ν 4 = ν 3 + 1
  i2 : ν 5 = (ν 3).tdiv 2
  r : ∀ v, c.r = some v → (ν 3).tmod 2 = v
  q : (ν 5).tmod 4 = ν 63
  lt60 : ∀ b, c.lt60 = some b → b = decide (ν 3 < 60)
  lt40 : ∀ b, c.lt40 = some b → b = decide (ν 3 < 40)
  ltd : ∀ b, c.ltd = some b → b = decide (ν 3 < ν 35)
  g48 : ∀ b, c.g48 = some b → b = decide (48 < ν 9)
  kd : ∀ v, c.kd = some v → (ν 46).tmod 7 = v
  pg : (ν 47).tmod 4 = ν 57
  ad : (ν 48).tmod 64 = ν 58
  c59 : ν 59 = ν 57 ∧ 0 ≤ ν 57 ∧ ν 57 < 4
  c62 : ν 62 = ν 58 ∧ 0 ≤ ν 58 ∧ ν 58 < 64
  k46 : ν 46 = IntKind.wrap .u64 (ν 36)
  k47 : ν 47 = IntKind.wrap .u64 (ν 37)
  k48 : ν 48 = IntKind.wrap .u64 (ν 38)
  k50 : ν 50 = IntKind.wrap .u8 (ν 39)
  tries : ν 53 = IntKind.wrap .i64 (ν 52 + 1)
  log : ∀ j, j < 100 → ν (5000 + j) = ν 5000 + j
  log1 : 1 ≤ ν 5000
  log2 : ν 5000 ≤ 3000

variable {P : Program}
theorem bin_int {op : BinOp} {ik : IntKind} {x y n : Int} (h : (intF op).run ik x y (fun v => .ok (v, ⟨.leaf, 0⟩)) = .ok (.int ik (.lit n), ⟨.leaf, 0⟩)) (w : World) : (binOp op 0 (.int ik x) (.int ik y)).run P w = .ok (.int ik n) w := by
  obtain ⟨v, h1, V, h2, h3⟩ := intF_ok (P := P) (ν := fun _ => 0) h
  simp only [Res.ok.injEq, Prod.mk.injEq, and_true] at h1
  subst h1
  have := h3 (fun _ => none)
  simp only [Rep, SInt.val] at this
  rw [h2 0 w, this]
theorem bin_bool {op : BinOp} {ik : IntKind} {x y : Int} {b : Bool} (h : (intF op).run ik x y (fun v => .ok (v, ⟨.leaf, 0⟩)) = .ok (.bool b, ⟨.leaf, 0⟩)) (w : World) : (binOp op 0 (.int ik x) (.int ik y)).run P w = .ok (.bool b) w := by
  obtain ⟨v, h1, V, h2, h3⟩ := intF_ok (P := P) (ν := fun _ => 0) h
  simp only [Res.ok.injEq, Prod.mk.injEq, and_true] at h1
  subst h1
  have := h3 (fun _ => none)
  simp only [Rep] at this
  rw [h2 0 w, this]
/-- what a table may answer -/
def SymOk (P : Program) (ν : Nat → Int) (op : BinOp) (k : IntKind) (a b : Int) (v : SV) : Prop := ∃ V, (∀ w, (binOp op 0 (.int k a) (.int k b)).run P w = .ok V w) ∧ ∀ σ, Rep ν σ v V
theorem SymOk.int {ν : Nat → Int} {op : BinOp} {k : IntKind} {a b n : Int} {s : SInt} (h : (intF op).run k a b (fun v => .ok (v, ⟨.leaf, 0⟩)) = .ok (.int k (.lit n), ⟨.leaf, 0⟩)) (e : s.val ν = n) : SymOk P ν op k a b (.int k s) :=
  ⟨.int k n, fun w => bin_int h w, fun σ => by simp only [Rep]; rw [e]⟩
theorem SymOk.bool {ν : Nat → Int} {op : BinOp} {k : IntKind} {a b : Int} {t : Bool} (h : (intF op).run k a b (fun v => .ok (v, ⟨.leaf, 0⟩)) = .ok (.bool t, ⟨.leaf, 0⟩)) : SymOk P ν op k a b (.bool t) :=
  ⟨.bool t, fun w => bin_bool h w, fun σ => by simp only [Rep]⟩
theorem symAdd {ν : Nat → Int} {k : IntKind} {a b : Int} {s : SInt} (e : s.val ν = k.wrap (a + b)) : SymOk P ν .add k a b (.int k s) := .int (n := k.wrap (a + b)) (by simp only [intF]; rw [wrapK_eq]; rfl) e
theorem symSub {ν : Nat → Int} {k : IntKind} {a b : Int} {s : SInt} (e : s.val ν = k.wrap (a - b)) : SymOk P ν .sub k a b (.int k s) := .int (n := k.wrap (a - b)) (by simp only [intF]; rw [wrapK_eq]; rfl) e
theorem symMul {ν : Nat → Int} {k : IntKind} {a b : Int} {s : SInt} (e : s.val ν = k.wrap (a * b)) : SymOk P ν .mul k a b (.int k s) := .int (n := k.wrap (a * b)) (by simp only [intF]; rw [wrapK_eq]; rfl) e
theorem symQuo {ν : Nat → Int} {k : IntKind} {a b : Int} {s : SInt} (hb : b ≠ 0) (e : s.val ν = k.wrap (a.tdiv b)) : SymOk P ν .quo k a b (.int k s) := .int (n := k.wrap (a.tdiv b)) (by
  have : eqI b 0 = false := by rw [eqI_eq]; simpa using hb
  simp only [intF, this]; rw [wrapK_eq]) e
theorem symRem {ν : Nat → Int} {k : IntKind} {a b : Int} {s : SInt} (hb : b ≠ 0) (e : s.val ν = a.tmod b) : SymOk P ν .rem k a b (.int k s) := .int (n := a.tmod b) (by
  have : eqI b 0 = false := by rw [eqI_eq]; simpa using hb
  simp only [intF, this]; rw [forceI_eq]) e
theorem symEql {ν : Nat → Int} {k : IntKind} {a b : Int} {t : Bool} (e : t = decide (a = b)) : SymOk P ν .eql k a b (.bool t) := .bool (by
  simp only [intF]; rw [eqI_eq, ← e]; cases t <;> rfl)
theorem symNeq {ν : Nat → Int} {k : IntKind} {a b : Int} {t : Bool} (e : t = !decide (a = b)) : SymOk P ν .neq k a b (.bool t) := .bool (by
  simp only [intF]; rw [eqI_eq, e]; cases decide (a = b) <;> rfl)
theorem symLss {ν : Nat → Int} {k : IntKind} {a b : Int} {t : Bool} (e : t = decide (a < b)) : SymOk P ν .lss k a b (.bool t) := .bool (by
  simp only [intF]; rw [ltI_eq, ← e]; cases t <;> rfl)
theorem symGtr {ν : Nat → Int} {k : IntKind} {a b : Int} {t : Bool} (e : t = decide (b < a)) : SymOk P ν .gtr k a b (.bool t) := .bool (by
  simp only [intF]; rw [ltI_eq, ← e]; cases t <;> rfl)
theorem symLeq {ν : Nat → Int} {k : IntKind} {a b : Int} {t : Bool} (e : t = !decide (b < a)) : SymOk P ν .leq k a b (.bool t) := .bool (by
  simp only [intF]; rw [ltI_eq, e]; cases decide (b < a) <;> rfl)
theorem symGeq {ν : Nat → Int} {k : IntKind} {a b : Int} {t : Bool} (e : t = !decide (a < b)) : SymOk P ν .geq k a b (.bool t) := .bool (by
  simp only [intF]; rw [ltI_eq, e]; cases decide (a < b) <;> rfl)

def K2 (k : IntKind) : Prop := k = .i64 ∨ k = .u64
theorem K2.wrap {k : IntKind} (h : K2 k) {n : Int} (h1 : 0 ≤ n) (h2 : n ≤ 9223372036854775807) : k.wrap n = n := by
  rcases h with rfl | rfl
  · exact wrap_i64 (by omega) h2
  · exact wrap_u64 h1 (by omega)
theorem natOp_ok {ν : Nat → Int} {op : BinOp} {k : IntKind} {a b : Nat} {v : SV} (h : natOp op k a b = some v) : SymOk P ν op k a b v := by
  unfold natOp at h
  split at h
  · split at h
    · split at h
      · rename_i g; cases h
        have g := Nat.le_of_ble_eq_true g
        exact symAdd (by rw [wrap_i64 (by omega) (by omega)]; rfl)
      · cases h
    · cases h
  · split at h
    · split at h
      · rename_i g1
        split at h
        · rename_i g2; cases h
          have g1 := Nat.le_of_ble_eq_true g1
          have g2 := Nat.le_of_ble_eq_true g2
          exact symSub (by rw [wrap_i64 (by omega) (by omega)]; show ((a - b : Nat) : Int) = _; omega)
        · cases h
      · cases h
    · cases h
  · split at h
    · split at h
      · rename_i g
        have g := Nat.le_of_ble_eq_true g
        split at h
        · cases h
        · rename_i b; cases h
          have e : ((a : Int).tdiv ((b + 1 : Nat) : Int)) = ((a / (b + 1) : Nat) : Int) := (Int.ofNat_tdiv a (b + 1)).symm
          have hle : a / (b + 1) ≤ a := Nat.div_le_self _ _
          refine symQuo (by omega) ?_
          rw [e]
          show ((a / (b + 1) : Nat) : Int) = _
          generalize a / (b + 1) = q at *
          rw [wrap_i64 (by omega) (by omega)]
      · cases h
    · cases h
  · split at h
    · cases h
    · rename_i b; cases h
      exact symRem (by omega) (by rw [← Int.ofNat_tmod]; rfl)
  · cases h; exact symLss (by
      rw [Bool.eq_iff_iff, decide_eq_true_iff]
      exact ⟨fun g => Int.ofNat_lt.2 (Nat.le_of_ble_eq_true g), fun g => Nat.ble_eq_true_of_le (Int.ofNat_lt.1 g)⟩)
  · cases h; exact symLeq (by
      cases e : Nat.ble a b with
      | true => have := Nat.le_of_ble_eq_true e; simp; omega
      | false => have : ¬ a ≤ b := fun g => by rw [Nat.ble_eq_true_of_le g] at e; cases e
                 simp; omega)
  · cases h; exact symGtr (by
      rw [Bool.eq_iff_iff, decide_eq_true_iff]
      exact ⟨fun g => Int.ofNat_lt.2 (Nat.le_of_ble_eq_true g), fun g => Nat.ble_eq_true_of_le (Int.ofNat_lt.1 g)⟩)
  · cases h; exact symGeq (by
      cases e : Nat.ble b a with
      | true => have := Nat.le_of_ble_eq_true e; simp; omega
      | false => have : ¬ b ≤ a := fun g => by rw [Nat.ble_eq_true_of_le g] at e; cases e
                 simp; omega)
  · cases h; exact symEql (by
      rw [Bool.eq_iff_iff, decide_eq_true_iff]
      exact ⟨fun g => by rw [Nat.eq_of_beq_eq_true g], fun g => by rw [Int.ofNat.inj g]; simp⟩)
  · split at h
    · rename_i g; cases h
      exact symNeq (by rw [Nat.eq_of_beq_eq_true g]; simp)
    · rename_i g; cases h
      exact symNeq (by
        have : a ≠ b := fun e => by subst e; simp at g
        simp; omega)
  · cases h
theorem at9_ok {c : Cs} {m : Nat → Nat} {ν : Nat → Int} (h : NuOk c m ν) (x : SInt) : (at9 c x).val ν = x.val ν := by
  unfold at9
  split
  · split
    · split
      · rename_i g; rw [Nat.eq_of_beq_eq_true g]; exact h.nine.symm
      · rfl
    · rfl
  · rfl
theorem cmpP_ok {ν : Nat → Int} {op : BinOp} {k : IntKind} {s n : Nat} {v : SV} (h : cmpP op s n = some v) : SymOk P ν op k s n v := by
  unfold cmpP at h
  split at h
  · cases h; exact symEql (by
      rw [Bool.eq_iff_iff, decide_eq_true_iff]
      exact ⟨fun g => by rw [Nat.eq_of_beq_eq_true g], fun g => by rw [Int.ofNat.inj g]; simp⟩)
  · split at h
    · rename_i g; cases h
      exact symNeq (by rw [Nat.eq_of_beq_eq_true g]; simp)
    · rename_i g; cases h
      exact symNeq (by
        have : s ≠ n := fun e => by subst e; simp at g
        simp; omega)
  · cases h
theorem memB_lt {c : Cs} {m : Nat → Nat} {ν : Nat → Int} (h : NuOk c m ν) (j : Nat) : memB m j < 256 := by
  unfold memB
  split
  · rename_i g; exact (h.byte j g).2
  · omega
theorem wordN_lt {m : Nat → Nat} (hm : ∀ j, m j < 256) : ∀ n s, wordN m s n < 256 ^ n := by
  intro n
  induction n with
  | zero => intro s; simp [wordN]
  | succ n ih =>
    intro s
    have h1 := hm s
    have h2 := ih (s + 1)
    rw [Nat.pow_succ]
    simp only [wordN]
    omega
theorem wordN_snoc (m : Nat → Nat) : ∀ n s, wordN m s (n + 1) = wordN m s n + m (s + n) * 256 ^ n := by
  intro n
  induction n with
  | zero => intro s; simp [wordN]
  | succ n ih =>
    intro s
    rw [wordN, ih (s + 1), wordN]
    rw [show s + 1 + n = s + (n + 1) by omega, Nat.pow_succ, Nat.mul_add, ← Nat.add_assoc]
    congr 1
    rw [Nat.mul_comm (256 ^ n) 256, Nat.mul_left_comm]

theorem byteOf_ok {c : Cs} {m : Nat → Nat} {ν : Nat → Int} (h : NuOk c m ν) {i x : Nat} (e : byteOf c i = some x) : x < 16 ∧ ν i = memB m (c.a + x) ∧ (c.useA = true → i = 100 + c.a + x ∧ i < 164) ∧ (c.useA = false → i = 300 + x) := by
  unfold byteOf at e
  split at e
  · rename_i hu
    split at e
    · rename_i g1
      split at e
      · rename_i g2
        split at e
        · rename_i g3
          cases e
          have g1 := Nat.le_of_ble_eq_true g1
          have g2 : i < 116 + c.a := Nat.le_of_ble_eq_true g2
          have g3 : i < 164 := Nat.le_of_ble_eq_true g3
          have hb := (h.byte (i - 100) (by omega)).1
          have e1 : 100 + (i - 100) = i := by omega
          rw [e1] at hb
          refine ⟨by omega, ?_, fun _ => ⟨by omega, g3⟩, fun g => (by rw [hu] at g; cases g)⟩
          rw [hb]
          unfold memB
          have e2 : c.a + (i - (100 + c.a)) = i - 100 := by omega
          rw [e2, if_pos (by omega)]
        · cases e
      · cases e
    · cases e
  · rename_i hu
    split at e
    · rename_i g1
      split at e
      · rename_i g2
        have e := Option.some.inj e
        subst e
        have g1 := Nat.le_of_ble_eq_true g1
        have g2 : i < 316 := Nat.le_of_ble_eq_true g2
        have hb := (h.row (i - 300) (by omega)).1
        have e1 : 300 + (i - 300) = i := by omega
        rw [e1] at hb
        exact ⟨by omega, hb, fun g => (by rw [hu] at g; cases g), fun _ => by omega⟩
      · cases e
    · cases e
theorem isSmall_ok {c : Cs} {m : Nat → Nat} {ν : Nat → Int} (h : NuOk c m ν) {i : Nat} (e : isSmall i = true) : 0 ≤ ν i ∧ ν i < 256 := by
  unfold isSmall isByte at e
  split at e
  · rename_i g
    split at g
    · rename_i g1
      have g1 := Nat.le_of_ble_eq_true g1
      have g2 : i < 164 := Nat.le_of_ble_eq_true g
      have hb := h.byte (i - 100) (by omega)
      have e1 : 100 + (i - 100) = i := by omega
      rw [e1] at hb
      omega
    · cases g
  · split at e
    · rename_i g1
      have g1 := Nat.le_of_ble_eq_true g1
      have g2 : i < 316 := Nat.le_of_ble_eq_true e
      have hb := h.row (i - 300) (by omega)
      have e1 : 300 + (i - 300) = i := by omega
      rw [e1] at hb
      omega
    · cases e
theorem boolO_ok {o : Option Bool} {v : SV} (h : boolO o = some v) : ∃ b, o = some b ∧ v = .bool b := by
  unfold boolO at h
  split at h
  · cases h; exact ⟨_, rfl, rfl⟩
  · cases h
theorem litO_ok {k : IntKind} {o : Option Nat} {v : SV} (h : litO k o = some v) : ∃ n, o = some n ∧ v = .int k (.lit (.ofNat n)) := by
  unfold litO at h
  split at h
  · cases h; exact ⟨_, rfl, rfl⟩
  · cases h
theorem symAL_ok {c : Cs} {m : Nat → Nat} {ν : Nat → Int} (h : NuOk c m ν) {op : BinOp} {k : IntKind} (hk : K2 k) {i n : Nat} {v : SV} (e : symAL c op k i n = some v) : SymOk P ν op k (ν i) n v := by
  have pages : ∀ {p s}, ¬ (p < 10) → p ≤ 13 → getO c.ps (p - 10) = some s → ν p = (s : Int) := fun {p s} h1 h2 h3 => by
    have := h.ps (p - 10) s (by omega) h3
    rwa [show 10 + (p - 10) = p by omega] at this
  unfold symAL at e
  cases op <;> dsimp only at e <;> try (cases e; done)
  case add =>
    split at e
    · rename_i g; have g := Nat.eq_of_beq_eq_true g; subst g
      split at e
      · rename_i g; have g := Nat.eq_of_beq_eq_true g; subst g
        cases e
        have h1 := h.i1; have h2 := h.i60
        exact symAdd (by rw [hk.wrap (by simp; omega) (by simp; omega)]; exact h1)
      · cases e
    · split at e
      · rename_i g; have g := Nat.eq_of_beq_eq_true g; subst g
        split at e
        · rename_i g; have g := Nat.eq_of_beq_eq_true g; subst g
          split at e
          · cases e
            exact symAdd h.tries
          · cases e
        · cases e
      · split at e
        · rename_i g; have g := Nat.eq_of_beq_eq_true g; subst g
          split at e
          · rename_i g; have g := Nat.eq_of_beq_eq_true g; subst g
            cases e
            have h1 := h.addr8; have h2 := h.nine; have h3 := h.a70
            exact symAdd (by rw [h2, hk.wrap (by simp; omega) (by simp; omega)]; exact h1)
          · cases e
        · cases e
  case mul =>
    split at e
    · split at e
      · rename_i g; have g := Nat.eq_of_beq_eq_true g; subst g
        have fin : ∀ x, x < 16 → x % 8 ≠ 0 → ν i = (wordN (memB m) (c.a + x) (8 - x % 8) : Int) → SymOk P ν .mul .u64 (ν i) ((256 : Nat) : Int) (.int .u64 (.atom (420 + x))) := by
          intro x hx hx0 hw
          have hlt := wordN_lt (memB_lt h) (8 - x % 8) (c.a + x)
          have hp : 256 ^ (8 - x % 8) ≤ 256 ^ 7 := Nat.pow_le_pow_right (by decide) (by omega)
          have e7 : (256 : Nat) ^ 7 = 72057594037927936 := by decide
          refine symMul ?_
          rw [hw, wrap_u64 (by omega) (by omega)]
          show ν (420 + x) = _
          rw [h.part2 x hx]; omega
        split at e
        · rename_i x hx
          obtain ⟨hx1, hx2, hx3, hx4⟩ := byteOf_ok h hx
          split at e
          · rename_i hl
            split at e
            · cases e
            · rename_i hx0
              cases e
              have hx0 : x % 8 ≠ 0 := fun g => by rw [g] at hx0; cases hx0
              refine fin x hx1 hx0 ?_
              rw [hx2]
              congr 1
              unfold lastB at hl
              split at hl
              · rename_i g
                have g := Nat.eq_of_beq_eq_true g
                rw [g]; simp [wordN]
              · have g := Nat.eq_of_beq_eq_true hl
                subst g
                have hz : ∀ n s, 64 ≤ s → wordN (memB m) s n = 0 := by
                  intro n
                  induction n with
                  | zero => intro s _; rfl
                  | succ n ih => intro s hs; simp only [wordN]; rw [ih _ (by omega)]; unfold memB; rw [if_neg (by omega)]
                have hu : c.useA = true := by
                  cases hu : c.useA with
                  | true => rfl
                  | false => have := hx4 hu; omega
                have := (hx3 hu).1
                obtain ⟨n, hn⟩ : ∃ n, 8 - x % 8 = n + 1 := ⟨7 - x % 8, by omega⟩
                rw [hn, wordN, hz n _ (by omega)]; omega
          · cases e
        · split at e
          · rename_i g1
            have g1 := Nat.le_of_ble_eq_true g1
            split at e
            · rename_i g2
              have g2 : i < 416 := Nat.le_of_ble_eq_true g2
              split at e
              · cases e
              · rename_i hx0
                cases e
                have hx0 : i % 8 ≠ 0 := fun g => by rw [g] at hx0; cases hx0
                have := fin (i - 400) (by omega) (by omega) (by rw [← h.part (i - 400) (by omega), show 400 + (i - 400) = i by omega])
                rwa [show 420 + (i - 400) = i + 20 by omega] at this
            · cases e
          · cases e
      · cases e
    · cases e
  case quo =>
    split at e
    · rename_i g; have g := Nat.eq_of_beq_eq_true g; subst g
      split at e
      · rename_i g; have g := Nat.eq_of_beq_eq_true g; subst g
        cases e
        have h1 := h.i60
        have h2 := h.i2
        refine symQuo (by decide) ?_
        have e1 : (ν 3).tdiv 2 = ν 3 / 2 := Int.tdiv_eq_ediv_of_nonneg h1.2
        have e2 : (ν 3).tdiv ((2 : Nat) : Int) = (ν 3).tdiv 2 := rfl
        rw [e2, hk.wrap (by rw [e1]; omega) (by rw [e1]; omega)]
        exact h2
      · cases e
    · cases e
  case rem =>
    split at e
    · rename_i g; have g := Nat.eq_of_beq_eq_true g; subst g
      split at e
      · rename_i g; have g := Nat.eq_of_beq_eq_true g; subst g
        obtain ⟨z, hz, rfl⟩ := litO_ok e; exact symRem (by decide) (h.kd z hz).symm
      · cases e
    · split at e
      · rename_i g; have g := Nat.eq_of_beq_eq_true g; subst g
        split at e
        · rename_i g; have g := Nat.eq_of_beq_eq_true g; subst g
          cases e; exact symRem (by decide) h.pg.symm
        · cases e
      · split at e
        · rename_i g; have g := Nat.eq_of_beq_eq_true g; subst g
          split at e
          · rename_i g; have g := Nat.eq_of_beq_eq_true g; subst g
            cases e; exact symRem (by decide) h.ad.symm
          · cases e
        · split at e
          · rename_i g; have g := Nat.eq_of_beq_eq_true g; subst g
            split at e
            · rename_i g; have g := Nat.eq_of_beq_eq_true g; subst g
              obtain ⟨z, hz, rfl⟩ := litO_ok e; exact symRem (by decide) (h.r z hz).symm
            · cases e
          · split at e
            · rename_i g; have g := Nat.eq_of_beq_eq_true g; subst g
              split at e
              · rename_i g; have g := Nat.eq_of_beq_eq_true g; subst g
                cases e; exact symRem (by decide) h.q.symm
              · cases e
            · split at e
              · rename_i g; have g := Nat.eq_of_beq_eq_true g; subst g
                split at e
                · rename_i g; have g := Nat.eq_of_beq_eq_true g; subst g
                  cases e; exact symRem (by decide) h.rem70.symm
                · cases e
              · cases e
  case eql =>
    split at e
    · rename_i g1
      have g1 := Nat.le_of_ble_eq_true g1
      split at e
      · rename_i g; have g := Nat.eq_of_beq_eq_true g; subst g
        split at e
        · rename_i g2
          have g2 : i < 5100 := Nat.le_of_ble_eq_true g2
          cases e
          have h1 := h.log (i - 5000) (by omega)
          have h2 := h.log2
          rw [show 5000 + (i - 5000) = i by omega] at h1
          exact symEql (by rw [eq_comm, decide_eq_false_iff_not]; omega)
        · cases e
      · cases e
    · split at e
      · rename_i g1
        have g1 := Nat.le_of_ble_eq_true g1
        split at e
        · rename_i g2
          have g2 := Nat.le_of_ble_eq_true g2
          split at e
          · rename_i s hs
            rw [pages (by omega) g2 hs]; exact cmpP_ok e
          · cases e
        · cases e
      · cases e
  case neq =>
    split at e
    · rename_i g1
      have g1 := Nat.le_of_ble_eq_true g1
      split at e
      · rename_i g2
        have g2 := Nat.le_of_ble_eq_true g2
        split at e
        · rename_i s hs
          rw [pages (by omega) g2 hs]; exact cmpP_ok e
        · cases e
      · cases e
    · cases e
  case lss =>
    split at e
    · rename_i g; have g := Nat.eq_of_beq_eq_true g; subst g
      split at e
      · rename_i g; have g := Nat.eq_of_beq_eq_true g; subst g
        obtain ⟨b, hb, rfl⟩ := boolO_ok e
        exact symLss (h.lt60 b hb)
      · split at e
        · rename_i g; have g := Nat.eq_of_beq_eq_true g; subst g
          obtain ⟨b, hb, rfl⟩ := boolO_ok e
          exact symLss (h.lt40 b hb)
        · cases e
    · split at e
      · rename_i g; have g := Nat.eq_of_beq_eq_true g; subst g
        split at e
        · rename_i g; have g := Nat.eq_of_beq_eq_true g; subst g
          cases e
          have h1 := h.hi
          exact symLss (by rw [eq_comm, decide_eq_false_iff_not]; simp; omega)
        · cases e
      · cases e
  case gtr =>
    split at e
    · rename_i g; have g := Nat.eq_of_beq_eq_true g; subst g
      split at e
      · rename_i g; have g := Nat.eq_of_beq_eq_true g; subst g
        obtain ⟨b, hb, rfl⟩ := boolO_ok e
        exact symGtr (h.g48 b hb)
      · split at e
        · rename_i g; have g := Nat.eq_of_beq_eq_true g; subst g
          cases e
          have h1 := h.nine; have h2 := h.a70
          exact symGtr (by rw [h1]; simp; omega)
        · cases e
    · split at e
      · rename_i g; have g := Nat.eq_of_beq_eq_true g; subst g
        split at e
        · rename_i g2
          have g2 := Nat.le_of_ble_eq_true g2
          cases e
          have h1 := h.hi
          exact symGtr (by rw [eq_comm, decide_eq_false_iff_not]; omega)
        · cases e
      · cases e

theorem or_nat {w : Nat} {a b n : Nat} (ha : a < 2 ^ n) (hw : a + b * 2 ^ n < 2 ^ w) : ((BitVec.ofInt w (a : Int) ||| BitVec.ofInt w ((b * 2 ^ n : Nat) : Int)).toNat) = a + b * 2 ^ n := by
  have h1 : (BitVec.ofInt w (a : Int)).toNat = a := by
    rw [BitVec.ofInt_natCast, BitVec.toNat_ofNat, Nat.mod_eq_of_lt (by omega)]
  have h2 : (BitVec.ofInt w ((b * 2 ^ n : Nat) : Int)).toNat = b * 2 ^ n := by
    rw [BitVec.ofInt_natCast, BitVec.toNat_ofNat, Nat.mod_eq_of_lt (by omega)]
  rw [BitVec.toNat_or, h1, h2, Nat.or_comm, ← Nat.shiftLeft_eq, ← Nat.shiftLeft_add_eq_or_of_lt ha]
  omega
theorem symOr {ν : Nat → Int} {a b n : Nat} {s : SInt} {y : Int} (hy : y = ((b * 2 ^ n : Nat) : Int)) (ha : a < 2 ^ n) (hw : a + b * 2 ^ n < 2 ^ 64) (e : s.val ν = ((a + b * 2 ^ n : Nat) : Int)) : SymOk P ν .or .u64 a y (.int .u64 s) := by
  subst hy
  refine .int (n := ((a + b * 2 ^ n : Nat) : Int)) ?_ e
  simp only [intF, bitsB]
  rw [forceI_eq]
  have : IntKind.bits .u64 = 64 := rfl
  have hor := or_nat (w := 64) ha hw
  rw [show (IntKind.u64).bits = 64 from rfl, hor, wrap_u64 (by omega) (by omega)]
theorem symAA_ok {c : Cs} {m : Nat → Nat} {ν : Nat → Int} (h : NuOk c m ν) {op : BinOp} {k : IntKind} (hk : K2 k) {i j : Nat} {v : SV} (e : symAA c op k i j = some v) : SymOk P ν op k (ν i) (ν j) v := by
  unfold symAA at e
  cases op <;> dsimp only at e <;> try (cases e; done)
  case add =>
    split at e
    · rename_i g1
      have g1 := Nat.le_of_ble_eq_true g1
      split at e
      · rename_i g2
        have g2 : i < 436 := Nat.le_of_ble_eq_true g2
        split at e
        · rename_i x hx
          obtain ⟨hx1, hx2, hx3, hx4⟩ := byteOf_ok h hx
          split at e
          · rename_i g3
            have g3 := Nat.eq_of_beq_eq_true g3
            split at e
            · cases e
            · rename_i hx7
              have hx7 : x % 8 ≠ 7 := fun g => by rw [g] at hx7; cases hx7
              split at e
              · cases e
                have hi : i = 420 + (x + 1) := by omega
                have hx16 : x + 1 < 16 := by omega
                have hp := h.part2 (x + 1) hx16
                rw [← hi] at hp
                have hlt := wordN_lt (memB_lt h) (8 - x % 8) (c.a + x)
                have hpw : 256 ^ (8 - x % 8) ≤ 256 ^ 8 := Nat.pow_le_pow_right (by decide) (by omega)
                have e8 : (256 : Nat) ^ 8 = 18446744073709551616 := by decide
                have hs : wordN (memB m) (c.a + x) (8 - x % 8) = memB m (c.a + x) + 256 * wordN (memB m) (c.a + (x + 1)) (8 - (x + 1) % 8) := by
                  have e1 : 8 - x % 8 = (8 - (x + 1) % 8) + 1 := by omega
                  rw [e1, wordN, show c.a + x + 1 = c.a + (x + 1) by omega]
                refine symAdd ?_
                rw [hp, hx2]
                have e2 : 256 * (wordN (memB m) (c.a + (x + 1)) (8 - (x + 1) % 8) : Int) + (memB m (c.a + x) : Int) = ((wordN (memB m) (c.a + x) (8 - x % 8) : Nat) : Int) := by rw [hs]; omega
                rw [e2, wrap_u64 (by omega) (by omega)]
                exact h.part x (by omega)
              · cases e
          · cases e
        · cases e
      · cases e
    · cases e
  case sub =>
    split at e
    · rename_i g1
      have g1 := Nat.le_of_ble_eq_true g1
      split at e
      · rename_i g2
        have g2 := Nat.le_of_ble_eq_true g2
        split at e
        · rename_i g3
          have g3 : i < 5100 := Nat.le_of_ble_eq_true g3
          cases e
          have h1 := h.log (i - 5000) (by omega)
          have h2 := h.log (j - 5000) (by omega)
          rw [show 5000 + (i - 5000) = i by omega] at h1
          rw [show 5000 + (j - 5000) = j by omega] at h2
          refine symSub ?_
          rw [h1, h2, hk.wrap (by omega) (by omega)]
          show ((i - j : Nat) : Int) = _
          omega
        · cases e
      · cases e
    · cases e
  case or =>
    split at e
    · cases e
    rename_i hu
    split at e
    · rename_i g1
      have g1 := Nat.le_of_ble_eq_true g1
      split at e
      · rename_i g2
        have g2 : j < 456 := Nat.le_of_ble_eq_true g2
        split at e
        · cases e
        rename_i y hy
        split at e
        · cases e
        rename_i hy7
        have hy7 : y % 8 ≠ 7 := fun g => by rw [g] at hy7; cases hy7
        split at e
        · rename_i hi
          have hi := Nat.eq_of_beq_eq_true hi
          split at e
          · cases e
            have hj : j = 440 + (y + 1) := by omega
            have hsh := h.shl (y + 1) (by omega)
            rw [← hj] at hsh
            have hy8 : (y + 1) % 8 = y % 8 + 1 := by omega
            have acc : ν i = ((wordN (memB m) (c.a + (y - y % 8)) (y % 8 + 1) : Nat) : Int) := by
              rw [hi]
              split
              · rename_i g
                have g := Nat.eq_of_beq_eq_true g
                rw [(h.row y (by omega)).1, g]
                simp [wordN]
              · rename_i g
                have g : y % 8 ≠ 0 := fun q => by rw [q] at g; cases g
                exact h.low y (by omega) g hy7
            have hlt := wordN_lt (memB_lt h) (y % 8 + 1) (c.a + (y - y % 8))
            have hlt2 := wordN_lt (memB_lt h) (y % 8 + 1 + 1) (c.a + (y - y % 8))
            have hsn := wordN_snoc (memB m) (y % 8 + 1) (c.a + (y - y % 8))
            have hix : c.a + (y - y % 8) + (y % 8 + 1) = c.a + (y + 1) := by omega
            rw [hix] at hsn
            have e256 : (256 : Nat) ^ (y % 8 + 1) = 2 ^ (8 * (y % 8 + 1)) := by
              rw [show (256 : Nat) = 2 ^ 8 by decide, ← Nat.pow_mul]
            have hpw : 256 ^ (y % 8 + 1 + 1) ≤ 256 ^ 8 := Nat.pow_le_pow_right (by decide) (by omega)
            have e8 : (256 : Nat) ^ 8 = 2 ^ 64 := by decide
            rw [e256] at hsn hlt
            rw [acc]
            refine symOr (b := memB m (c.a + (y + 1))) (n := 8 * (y % 8 + 1)) ?_ hlt (by rw [← hsn]; omega) ?_
            · rw [hsh, hy8]; push_cast; rfl
            · rw [← hsn]
              split
              · rename_i g
                have g := Nat.eq_of_beq_eq_true g
                have hp := h.part (y - 6) (by omega)
                have e3 : (y - 6) % 8 = 0 := by omega
                rw [e3] at hp
                have e4 : y - y % 8 = y - 6 := by omega
                show ν (400 + (y - 6)) = _
                rw [hp, e4, g]
              · rename_i g
                have g : y % 8 ≠ 6 := fun q => by rw [q] at g; cases g
                have hl := h.low (y + 1) (by omega) (by omega) (by omega)
                show ν (461 + y) = _
                rw [show 461 + y = 460 + (y + 1) by omega, hl, hy8, show y + 1 - (y % 8 + 1) = y - y % 8 by omega]
          · cases e
        · cases e
      · cases e
    · cases e
  case eql =>
    split at e
    · rename_i g; cases e
      exact symEql (by rw [Nat.eq_of_beq_eq_true g]; simp)
    · split at e
      · rename_i g; have g := Nat.eq_of_beq_eq_true g; subst g
        split at e
        · rename_i g; have g := Nat.eq_of_beq_eq_true g; subst g
          obtain ⟨b, hb, rfl⟩ := boolO_ok e
          exact symEql (h.on b hb)
        · cases e
      · cases e
  case neq =>
    split at e
    · rename_i g; cases e
      exact symNeq (by rw [Nat.eq_of_beq_eq_true g]; simp)
    · cases e
  case lss =>
    split at e
    · rename_i g; have g := Nat.eq_of_beq_eq_true g; subst g
      split at e
      · rename_i g; have g := Nat.eq_of_beq_eq_true g; subst g
        obtain ⟨b, hb, rfl⟩ := boolO_ok e
        exact symLss (h.ltd b hb)
      · cases e
    · cases e

theorem symShl_ok {c : Cs} {m : Nat → Nat} {ν : Nat → Int} (h : NuOk c m ν) {i n : Nat} {j : IntKind} {v : SV} (e : symShl c i n = some v) : ∃ V, (∀ w, (binOp .shl 0 (.int .u64 (ν i)) (.int j (n : Int))).run P w = .ok V w) ∧ ∀ σ, Rep ν σ v V := by
  unfold symShl at e
  split at e
  case h_2 => cases e
  rename_i x hx
  obtain ⟨hx1, hx2, _, _⟩ := byteOf_ok h hx
  split at e
  case h_2 => cases e
  rename_i g
  have g := Nat.eq_of_beq_eq_true g
  have hb := memB_lt h (c.a + x)
  have hn : n ≤ 56 := by omega
  have hpow : 2 ^ n ≤ 2 ^ 56 := Nat.pow_le_pow_right (by decide) hn
  have hval : ν i * 2 ^ (min n 64) = ((memB m (c.a + x) * 2 ^ n : Nat) : Int) := by
    rw [hx2, Nat.min_eq_left (by omega)]; push_cast; rfl
  have hlt : memB m (c.a + x) * 2 ^ n < 18446744073709551616 := by
    have h1 : memB m (c.a + x) * 2 ^ n ≤ 255 * 2 ^ 56 := Nat.mul_le_mul (by omega) hpow
    have : 255 * 2 ^ 56 < 18446744073709551616 := by decide
    omega
  have run : ∀ w, (binOp .shl 0 (.int .u64 (ν i)) (.int j (n : Int))).run P w = .ok (.int .u64 ((memB m (c.a + x) * 2 ^ n : Nat) : Int)) w := by
    intro w
    have hr : (shiftF .shl).run .u64 (ν i) (n : Int) (fun v => .ok (v, ⟨.leaf, 0⟩)) = .ok (.int .u64 (.lit ((memB m (c.a + x) * 2 ^ n : Nat) : Int)), ⟨.leaf, 0⟩) := by
      have hneg : ltI (n : Int) 0 = false := by rw [ltI_eq]; simp
      simp only [shiftF, hneg]
      rw [forceI_eq]
      have : (IntKind.u64).bits = 64 := rfl
      rw [this, Int.toNat_natCast, hval, wrap_u64 (by omega) (by omega)]
    obtain ⟨v, h1, V, h2, h3⟩ := shiftF_ok (P := P) (ν := fun _ => 0) (jk := j) hr
    simp only [Res.ok.injEq, Prod.mk.injEq, and_true] at h1
    subst h1
    have := h3 (fun _ => none)
    simp only [Rep, SInt.val] at this
    rw [h2 0 w, this]
  refine ⟨_, run, fun σ => ?_⟩
  split at e
  · cases e
    simp only [Rep, SInt.val]
    rw [hx2]; simp
  · cases e
    simp only [Rep, SInt.val]
    rw [h.shl x hx1, ← g]; push_cast; rfl
theorem cSym0_ok {c : Cs} {m : Nat → Nat} {ν : Nat → Int} (h : NuOk c m ν) {op : BinOp} {k : IntKind} (hk : K2 k) {x y : SInt} {v : SV} (e : cSym0 c op k x y = some v) : SymOk P ν op k (x.val ν) (y.val ν) v := by
  rw [← at9_ok h x, ← at9_ok h y]
  unfold cSym0 at e
  split at e
  · rename_i a ha
    rw [ha]
    split at e
    · rename_i b hb
      rw [hb]
      split at e
      · split at e
        · exact natOp_ok e
        · cases e
      · cases e
    · rename_i i hi
      rw [hi]
      split at e
      · split at e
        · split at e
          · rename_i g; cases e
            have := isSmall_ok h g
            exact symAdd (by rw [hk.wrap (by simp [SInt.val]; omega) (by simp [SInt.val]; omega)]; simp [SInt.val])
          · cases e
        · split at e
          · rename_i g; cases e
            have hs := isSmall_ok h g
            refine .int (n := ν i) ?_ rfl
            simp only [intF, bitsB]
            rw [forceI_eq]
            have hb : (BitVec.ofInt k.bits (SInt.val ν (.lit (Int.ofNat 0)))) = 0#k.bits := rfl
            rw [hb, BitVec.zero_or]
            have hbits : k.bits = 64 := by rcases hk with rfl | rfl <;> rfl
            obtain ⟨b, hbn⟩ : ∃ b : Nat, ν i = b := ⟨(ν i).toNat, by omega⟩
            show Res.ok (SV.int k (SInt.lit (k.wrap ↑(BitVec.ofInt k.bits (ν i)).toNat)), _) = _
            rw [hbn, BitVec.ofInt_natCast, BitVec.toNat_ofNat, hbits, Nat.mod_eq_of_lt (by omega), hk.wrap (by omega) (by omega)]
          · cases e
        · cases e
      · cases e
  · rename_i i hi
    rw [hi]
    split at e
    · rename_i b hb
      rw [hb]
      split at e
      · exact symAL_ok h hk e
      · cases e
    · rename_i l hl
      rw [hl]
      exact symAA_ok h hk e
theorem cSym_ok {c : Cs} {m : Nat → Nat} {ν : Nat → Int} (h : NuOk c m ν) (op : BinOp) (k : IntKind) (x : SInt) (j : IntKind) (y : SInt) (v : SV) (e : cSym c op k x j y = some v) : ∃ V, (∀ w, (binOp op 0 (.int k (x.val ν)) (.int j (y.val ν))).run P w = .ok V w) ∧ ∀ σ, Rep ν σ v V := by
  unfold cSym at e
  split at e
  · split at e
    · split at e
      · split at e
        · split at e
          · exact symShl_ok h e
          · cases e
        · cases e
      · cases e
    · cases e
  · cases e
  · split at e
    · cases e
    · rename_i g
      have g := eqK2_ok g
      subst g
      split at e
      · exact cSym0_ok h (.inl rfl) e
      · exact cSym0_ok h (.inr rfl) e
      · cases e
theorem cConv_ok {c : Cs} {m : Nat → Nat} {ν : Nat → Int} (h : NuOk c m ν) (k j : IntKind) (x : SInt) (v : SV) (e : cConv c k j x = some v) : ∀ σ, Rep ν σ v (.int k (k.wrap (x.val ν))) := by
  intro σ
  unfold cConv at e
  split at e
  case h_2 => cases e
  rename_i i
  show Rep ν σ v (.int k (k.wrap (ν i)))
  split at e
  · rename_i g; have g := Nat.eq_of_beq_eq_true g; subst g
    split at e
    · cases e; simp only [Rep, SInt.val]; rw [h.raw2]
    · cases e
  · split at e
    · rename_i g; have g := Nat.eq_of_beq_eq_true g; subst g
      have h1 := h.nine; have h2 := h.a70
      split at e
      · cases e; simp only [Rep, SInt.val]; rw [wrap_u64 (by omega) (by omega)]
      · cases e; simp only [Rep, SInt.val]; rw [wrap_i64 (by omega) (by omega)]
      · cases e
    · split at e
      · rename_i g; have g := Nat.eq_of_beq_eq_true g; subst g
        split at e
        · cases e; simp only [Rep, SInt.val]; rw [h.k50]
        · cases e
      · split at e
        · split at e
          · rename_i g; have g := Nat.eq_of_beq_eq_true g; subst g
            have h1 := h.c59
            cases e; simp only [Rep, SInt.val]; rw [h1.1, wrap_i64 (by omega) (by omega)]
          · split at e
            · rename_i g; have g := Nat.eq_of_beq_eq_true g; subst g
              have h1 := h.c62
              cases e; simp only [Rep, SInt.val]; rw [h1.1, wrap_i64 (by omega) (by omega)]
            · cases e
        · split at e
          · rename_i g; have g := Nat.eq_of_beq_eq_true g; subst g
            cases e; simp only [Rep, SInt.val]; rw [h.k46]
          · split at e
            · rename_i g; have g := Nat.eq_of_beq_eq_true g; subst g
              cases e; simp only [Rep, SInt.val]; rw [h.k47]
            · split at e
              · rename_i g; have g := Nat.eq_of_beq_eq_true g; subst g
                cases e; simp only [Rep, SInt.val]; rw [h.k48]
              · split at e
                · rename_i g; cases e
                  have := isSmall_ok h g
                  simp only [Rep, SInt.val]; rw [wrap_u64 (by omega) (by omega)]
                · split at e
                  · rename_i g; have g := Nat.eq_of_beq_eq_true g; subst g
                    have h1 := h.hi
                    cases e; simp only [Rep, SInt.val]; rw [wrap_u64 (by omega) (by omega)]
                  · cases e
        · cases e
theorem cLog_ok {c : Cs} {m : Nat → Nat} {ν : Nat → Int} (h : NuOk c m ν) (a j b : Nat) (e : cLog a j = some b) : ν b = ν a + j ∧ 1 ≤ ν a ∧ ν b ≤ 4096 := by
  unfold cLog at e
  split at e
  · rename_i g1
    have g1 := Nat.le_of_ble_eq_true g1
    split at e
    · rename_i g2
      have g2 : a + j < 5100 := Nat.le_of_ble_eq_true g2
      have e := Option.some.inj e
      subst e
      have h1 := h.log (a - 5000) (by omega)
      have h2 := h.log (a + j - 5000) (by omega)
      rw [show 5000 + (a - 5000) = a by omega] at h1
      rw [show 5000 + (a + j - 5000) = a + j by omega] at h2
      have h3 := h.log1; have h4 := h.log2
      omega
    · cases e
  · cases e
/-- the tables of a run of TopCopies are right -/
theorem eokC {c : Cs} {m : Nat → Nat} {ν : Nat → Int} (h : NuOk c m ν) {glob : Nat → Option (List SV)} {intr : FuncId → Option IX} : EOk Tryz.prog ⟨tyT, fnT, glob, intr, cSym c, cConv c, simpleF, cLog⟩ ν :=
  eok (fun op k x j y v e => cSym_ok h op k x j y v e) (fun k j x v e => cConv_ok h k j x v e) (fun a j b e => cLog_ok h a j b e)

/-- for a local run at the address: the same atoms -/
def csA (a : Nat) (ps : List (Option Nat)) : Cs := ⟨true, a, ps, Option.none, Option.none, Option.none, Option.none, Option.none, Option.none, 63, Option.none⟩
theorem NuOk.at {c : Cs} {m : Nat → Nat} {ν : Nat → Int} (h : NuOk c m ν) {ps : List (Option Nat)} (hps : ∀ p s, p < 4 → getO ps p = some s → ν (10 + p) = s) : NuOk (csA c.a ps) m ν :=
  { h with
    ps := hps
    on := fun b e => by cases e
    hi := by have := h.hi; exact ⟨this.1, by show ν 51 ≤ 63; omega, Nat.le_refl _⟩
    r := fun v e => by cases e
    lt60 := fun b e => by cases e
    lt40 := fun b e => by cases e
    ltd := fun b e => by cases e
    g48 := fun b e => by cases e
    kd := fun v e => by cases e }
end Go.Ev
