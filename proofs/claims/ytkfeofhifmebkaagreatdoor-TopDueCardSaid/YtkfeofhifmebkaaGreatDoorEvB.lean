/- The tops: a verified evaluator of the program (EvB). -/
import Derived.Test.YtkfeofhifmebkaaGreatDoorEvA
import Derived.Laws.MakeOwn
import Derived.MapKept
import Derived.Deep.Upon
import Derived.Maps.RangeRun
namespace Go.Ev
open Go
variable {ν : Nat → Int} {P : Program} {E : Env} {base : Nat}

theorem unC_ok {op : UnOp} {x : SV} {st : St} {k : SV → R} {out} (h : (unC op).run x st k = .ok out) :
    ∃ v, k v = .ok out ∧ ∀ σ X w, Rep ν σ x X → ∃ V, (Op.unary op X).run P w = .ok V w ∧ Rep ν σ v V := by
  cases op <;> dsimp only [unC] at h <;> try (cases h; done)
  case not =>
    cases x <;> (try dsimp only at h) <;> try (cases h; done)
    rename_i b
    exact ⟨_, notR_ok h, fun σ X w hX => by simp only [Rep] at hX; subst hX; exact ⟨.bool (!b), rfl, by simp only [Rep]⟩⟩
  case neg =>
    cases x <;> (try dsimp only at h) <;> try (cases h; done)
    rename_i ik xa
    cases xa <;> (try dsimp only at h) <;> try (cases h; done)
    rename_i n
    rw [wrapK_eq] at h
    exact ⟨_, h, fun σ X w hX => by simp only [Rep, SInt.val] at hX; subst hX; exact ⟨.int ik (ik.wrap (0 - n)), rfl, by simp only [Rep]; rfl⟩⟩
  case xor =>
    cases x <;> (try dsimp only at h) <;> try (cases h; done)
    rename_i ik xa
    cases xa <;> (try dsimp only at h) <;> try (cases h; done)
    rename_i n
    rw [forceI_eq] at h
    exact ⟨_, h, fun σ X w hX => by simp only [Rep, SInt.val] at hX; subst hX; exact ⟨_, rfl, by simp only [Rep]; rfl⟩⟩
theorem convC_ok (hE : EOk P E ν) {s d : TypeId} {x : SV} {st : St} {k : SV → R} {out} (h : (convC E s d).run x st k = .ok out) :
    ∃ v, k v = .ok out ∧ ∀ σ X w, Rep ν σ x X → ∃ V, (convert s d X).run P w = .ok V w ∧ Rep ν σ v V := by
  unfold convC at h
  split at h
  · cases h
  · rename_i i hs
    have hu := hE.und hs
    split at h
    · rename_i ik size bytes agg zero hd
      have hv := hE.und hd
      dsimp only at h
      split at h
      · rename_i jk n
        rw [wrapK_eq] at h
        refine ⟨_, h, fun σ X w hX => ?_⟩
        simp only [Rep, SInt.val] at hX; subst hX
        exact ⟨.int ik (ik.wrap n), by simp [convert, run_underlying hu, run_underlying hv, Conv.intToInt], by simp only [Rep]; rfl⟩
      · rename_i jk i
        split at h
        · rename_i v hsy
          refine ⟨v, h, fun σ X w hX => ?_⟩
          simp only [Rep] at hX; subst hX
          exact ⟨_, by simp [convert, run_underlying hu, run_underlying hv, Conv.intToInt], hE.symConv ik jk _ v hsy σ⟩
        · cases h
      · cases h
    · rename_i size bytes agg zero hd
      have hv := hE.und hd
      dsimp only at h
      split at h
      · rename_i a
        refine ⟨_, h, fun σ X w hX => ?_⟩
        simp only [Rep] at hX; subst hX
        exact ⟨.string a, by cases hi : i.und <;> (rw [hi] at hu; simp [convert, run_underlying hu, run_underlying hv]), by simp only [Rep]⟩
      · cases h
    · cases h
theorem moveP_ok {d : Nat} {p : SV} {k : SV → R} {out} (h : moveP d p k = .ok out) :
    ∃ q, k q = .ok out ∧ ∀ σ V, Rep ν σ p V → ∃ b off, V = .pointer (some ⟨b, off, none⟩) ∧ Rep ν σ q (.pointer (some ⟨b, off + d, none⟩)) := by
  cases p <;> dsimp only [moveP] at h <;> try (cases h; done)
  case ptr n off =>
    rw [forceN_eq] at h
    refine ⟨_, h, fun σ V hV => ?_⟩
    simp only [Rep] at hV ⊢
    obtain ⟨b, z, h1, rfl⟩ := hV
    exact ⟨b, off, rfl, b, z, h1, rfl⟩
  case gptr g off =>
    rw [forceN_eq] at h
    refine ⟨_, h, fun σ V hV => ?_⟩
    simp only [Rep] at hV ⊢
    subst hV
    exact ⟨g, off, rfl, rfl⟩
theorem fieldC_ok {β : Type} (hE : EOk P E ν) (s : TypeId) (f : Nat) (bad : β) (k : Nat → TypeId → β) :
    fieldC E s f bad k = bad ∨ ∃ fs fd, P.underlying s = some (.struct fs) ∧ fs[f]? = some fd ∧ fieldC E s f bad k = k fd.offset fd.type := by
  unfold fieldC
  split
  · rename_i fs size bytes agg zero hs
    have hu := hE.und hs
    split
    · rename_i fd hf
      rw [getL_eq, Array.getElem?_toList] at hf
      exact .inr ⟨fs, fd, hu, hf, forceN_eq _ _⟩
    · exact .inl rfl
  · exact .inl rfl
theorem ble_succ {i n : Nat} (h : Nat.ble (Nat.succ i) n = true) : i < n := Nat.le_of_ble_eq_true h
theorem someAddr_ok (hE : EOk P E ν) {len sz : Nat} {x : SV} {ik : IntKind} {i : Nat} {k : SV → R} {out} (h : someAddr E len sz x ik i k = .ok out) :
    sz = 1 ∧ 0 ≤ ν i ∧ ν i < len ∧ ∃ v, k v = .ok out ∧ ∀ σ V, Rep ν σ x V → ∃ b off, V = .pointer (some ⟨b, off, none⟩) ∧ Rep ν σ v (.pointer (some ⟨b, off + (ν i).toNat, none⟩)) := by
  unfold someAddr at h
  split at h
  · cases h
  rename_i g1
  split at h
  · cases h
  rename_i g2
  split at h
  · cases h
  rename_i g3
  have g2 := known_lss hE g2
  have g3 := known_geq hE g3
  split at h
  · rename_i n off
    refine ⟨Nat.eq_of_beq_eq_true g1, g3, g2, _, h, fun σ V hV => ?_⟩
    simp only [Rep] at hV ⊢
    obtain ⟨b, z, h1, rfl⟩ := hV
    exact ⟨b, off, rfl, b, z, h1, g3, g2, rfl⟩
  · cases h
theorem indexAddrC_ok (hE : EOk P E ν) {t : TypeId} {x ix : SV} {k : SV → R} {out} (h : (indexAddrC E t).run x ix k = .ok out) :
    ∃ v, k v = .ok out ∧ ∀ σ X I w, Rep ν σ x X → Rep ν σ ix I → ∃ V, (Instr.indexAt t X I).run P w = .ok V w ∧ Rep ν σ v V := by
  unfold indexAddrC at h
  split at h
  · rename_i len elem size bytes agg zero ht
    have hu := hE.und ht
    rw [forceN_eq] at h
    unfold sizeC at h
    split at h
    case h_2 => cases h
    · rename_i u2 esz bytes2 agg2 zero2 hi
      rw [forceN_eq] at h
      dsimp only at h
      split at h
      · rename_i jk j
        split at h
        · cases h
        · rename_i hb
          have hlt := ble_succ hb
          obtain ⟨q, h1, h2⟩ := moveP_ok (ν := ν) h
          refine ⟨q, h1, fun σ X I w hX hI => ?_⟩
          obtain ⟨b, off, rfl, h3⟩ := h2 σ X hX
          simp only [Rep, SInt.val] at hI; subst hI
          refine ⟨_, ?_, h3⟩
          have h0 : (0 : Int) ≤ Int.ofNat j := by simp
          have h4 : (Int.ofNat j) < (len : Int) := by simp; exact hlt
          simp [Instr.indexAt, asIntOf, run_underlying hu, Instr.sureAddr, hE.size hi, hlt, Addr.add_eq]
      · rename_i jk j
        obtain ⟨hsz, h0, h1, v, hk, hv⟩ := someAddr_ok hE h
        refine ⟨v, hk, fun σ X I w hX hI => ?_⟩
        obtain ⟨b, off, rfl, h3⟩ := hv σ X hX
        simp only [Rep, SInt.val] at hI; subst hI
        refine ⟨_, ?_, h3⟩
        obtain ⟨m, hm⟩ : ∃ m : Nat, ν j = m := ⟨(ν j).toNat, by omega⟩
        rw [hm] at h1 ⊢
        have hlt : m < len := by omega
        subst hsz
        simp [Instr.indexAt, asIntOf, run_underlying hu, Instr.sureAddr, hE.size hi, hlt, Addr.add_eq]
      · cases h
  · rename_i elem size bytes agg zero ht
    have hu := hE.und ht
    unfold sizeC at h
    split at h
    case h_2 => cases h
    · rename_i u2 esz bytes2 agg2 zero2 hi
      rw [forceN_eq] at h
      dsimp only at h
      split at h
      · rename_i jk j
        split at h
        · rename_i n off len cap
          split at h
          · cases h
          · rename_i hb
            have hlt := ble_succ hb
            rw [forceN_eq] at h
            refine ⟨_, h, fun σ X I w hX hI => ?_⟩
            simp only [Rep, SInt.val] at hX hI; subst hI
            obtain ⟨b, z, l, c, h1, rfl, h2, h3⟩ := hX
            have e : l = len := by have h5 : (Int.ofNat len) = (l : Int) := h2; simp at h5; omega
            subst e
            refine ⟨.pointer (some ⟨b, off + j * esz, none⟩), ?_, by simp only [Rep]; exact ⟨b, z, h1, rfl⟩⟩
            simp [Instr.indexAt, asIntOf, run_underlying hu, hE.size hi, hlt, Addr.add_eq]
        · cases h
      · rename_i jk j
        split at h
        · rename_i n off len cap
          obtain ⟨hsz, h0, h1, v, hk, hv⟩ := someAddr_ok hE h
          refine ⟨v, hk, fun σ X I w hX hI => ?_⟩
          simp only [Rep, SInt.val] at hX hI; subst hI
          obtain ⟨b, z, l, c, h3, rfl, h2, h4⟩ := hX
          have e : l = len := by have h5 : (Int.ofNat len) = (l : Int) := h2; simp at h5; omega
          subst e
          obtain ⟨b', off', e2, h6⟩ := hv σ (.pointer (some ⟨b, off, none⟩)) (by simp only [Rep]; exact ⟨b, z, h3, rfl⟩)
          cases e2
          refine ⟨_, ?_, h6⟩
          obtain ⟨m, hm⟩ : ∃ m : Nat, ν j = m := ⟨(ν j).toNat, by omega⟩
          rw [hm] at h1 ⊢
          have hlt : m < l := by omega
          subst hsz
          simp [Instr.indexAt, asIntOf, run_underlying hu, hE.size hi, hlt, Addr.add_eq]
        · cases h
      · cases h
  · cases h
theorem indexC_ok (hE : EOk P E ν) {t : TypeId} {x ix : SV} {k : SV → R} {out} (h : (indexC E t).run x ix k = .ok out) :
    ∃ v, k v = .ok out ∧ ∀ σ X I w, Rep ν σ x X → Rep ν σ ix I → ∃ V, (Instr.index t X I).run P w = .ok V w ∧ Rep ν σ v V := by
  unfold indexC at h
  split at h
  · rename_i len elem size bytes agg zero ht
    have hu := hE.und ht
    rw [forceN_eq] at h
    unfold sizeC at h
    split at h
    case h_2 => cases h
    · rename_i u2 esz bytes2 agg2 zero2 hi
      rw [forceN_eq] at h
      dsimp only at h
      split at h
      · rename_i jk j
        split at h
        · rename_i cs
          split at h
          · rename_i hb
            have hlt := ble_succ hb
            obtain ⟨v, h1, h2⟩ := partC_ok hE h
            refine ⟨v, h1, fun σ X I w hX hI => ?_⟩
            simp only [Rep, SInt.val] at hX hI; subst hI
            obtain ⟨C, rfl, hC⟩ := hX
            obtain ⟨V, h3, h4⟩ := h2 σ C w hC
            exact ⟨V, by simp [Instr.index, asIntOf, run_underlying hu, hE.size hi, hlt, h3], h4⟩
          · cases h
        · cases h
      · cases h
  · rename_i size bytes agg zero ht
    have hu := hE.und ht
    dsimp only at h
    split at h
    · rename_i jk j
      split at h
      · rename_i s
        split at h
        · rename_i b hb
          rw [forceN_eq] at h
          refine ⟨_, h, fun σ X I w hX hI => ?_⟩
          simp only [Rep, SInt.val] at hX hI; subst hI hX
          rw [getL_eq, Array.getElem?_toList] at hb
          have hb' : s[j]? = some b := by
            obtain ⟨h1, h2⟩ := Array.getElem?_eq_some_iff.1 hb
            have h3 : j < s.size := h1
            rw [getElem?_pos s j h3]
            exact congrArg some h2
          exact ⟨.int .u8 b.toNat, by simp [Instr.index, asIntOf, run_underlying hu, hb'], by simp only [Rep]; rfl⟩
        · cases h
      · cases h
    · cases h
  · cases h
end Go.Ev
namespace Go.Ev
open Go
variable {ν : Nat → Int} {P : Program} {E : Env} {base : Nat} {nt : Nat}

theorem foldl_zip (off : Nat) : ∀ (l : List Value) (s : Nat) (C : Array Value), off + s + l.length ≤ C.size →
    ((l.zipIdx s).foldl (fun cs p => cs.setIfInBounds (off + p.2) p.1) C).toList = C.toList.take (off + s) ++ l ++ C.toList.drop (off + s + l.length) := by
  intro l
  induction l with
  | nil => intro s C _; simp
  | cons v rest ih =>
    intro s C h
    simp only [List.zipIdx_cons, List.foldl_cons]
    rw [ih (s + 1) (C.setIfInBounds (off + s) v) (by simp at h ⊢; omega)]
    have e := list_seg_step C.toList (off + s) v rest (by simp at h ⊢; omega)
    simpa [Array.toList_setIfInBounds, Nat.add_assoc] using e
theorem fill_step (off : Nat) (V : Value) (C : Array Value) (h : off + V.cells.size ≤ C.size) :
    (V.cells.zipIdx.foldl (fun cs (c, j) => cs.setIfInBounds (off + j) c) C).toList = C.toList.take off ++ V.cells.toList ++ C.toList.drop (off + V.cells.size) := by
  rw [← Array.foldl_toList, Array.toList_zipIdx]
  have := foldl_zip off V.cells.toList 0 C (by simpa using h)
  simpa using this
theorem fillC_ok {place : Nat → (PL → PL) → (Nat → Nat → PL) → PL} {placeM : Nat → Option (Nat × Nat)}
    (hp : ∀ i (g : Nat → Nat → PL), place i id g = badPL ∨ ∃ off size, placeM i = some (off, size) ∧ place i id g = g off size) :
    ∀ (parts : List (Nat × Operand)) {a : A} {cs : List SV} {k : List SV → R} {out}, (fillC nt place parts).run a cs k = .ok out →
      ∃ cs', k cs' = .ok out ∧ ∀ σ act (C : Array Value), RepA ν σ nt a act → RepL ν σ cs C.toList →
        ∃ C', Instr.fill placeM C (parts.map fun p => (p.1, act.eval p.2)) = some C' ∧ RepL ν σ cs' C'.toList := by
  intro parts
  induction parts with
  | nil => intro a cs k out h; exact ⟨cs, h, fun σ act C _ hC => ⟨C, rfl, hC⟩⟩
  | cons p parts ih =>
    intro a cs k out h
    cases p with | mk i o =>
    simp only [fillC] at h
    have hh : ∀ G : Nat → Nat → PL, (place i id G).run a cs k = .ok out → ∃ off size, placeM i = some (off, size) ∧ (G off size).run a cs k = .ok out := by
      intro G hG
      rcases hp i G with g | ⟨off, size, h1, g⟩
      · rw [g] at hG; cases hG
      · rw [g] at hG; exact ⟨off, size, h1, hG⟩
    obtain ⟨off, size, h1, h⟩ := hh _ h
    · dsimp only at h
      obtain ⟨v, h2, h3⟩ := opC_ok (ν := ν) h
      split at h2
      · rename_i hb
        have hsz : v.cells.length = size := by rw [← lenL_eq]; exact Nat.eq_of_beq_eq_true hb
        obtain ⟨h4, h5⟩ := putLK_ok h2
        obtain ⟨cs', h6, h7⟩ := ih h5
        refine ⟨cs', h6, fun σ act C ha hC => ?_⟩
        have hv := (h3 σ act ha).cells
        have hl := hv.length
        have hl2 := hC.length
        have hle : off + (act.eval o).cells.size ≤ C.size := by simp at hl hl2; omega
        have hfs := fill_step off (act.eval o) C hle
        obtain ⟨C', h8, h9⟩ := h7 σ act ((act.eval o).cells.zipIdx.foldl (fun cs (c, j) => cs.setIfInBounds (off + j) c) C) ha (by
          rw [hfs]
          have e : (act.eval o).cells.size = v.cells.length := by simpa using hl
          rw [e]
          exact ((hC.take off).append hv).append (hC.drop _))
        refine ⟨C', ?_, h9⟩
        simp only [List.map_cons, Instr.fill, h1]
        rw [if_neg]
        · exact h8
        · have e : (act.eval o).cells.size = size := by simp at hl; omega
          simp only [e, ne_eq, not_true_eq_false, decide_false, Bool.false_or, decide_eq_true_eq]
          omega
      · cases h2

theorem zeroC_xf (hE : EOk P E ν) {t : TypeId} {m : String} {G : SV → XF} {self : Self} {a : A} {st : St} {k : SV → St → R} {out} (h : (zeroC E t (badX m) G).run self a st k = .ok out) :
    ∃ s z i, getT E.ty t = some i ∧ i.zero = some z ∧ (∀ w, (Go.zeroValue t).run P w = .ok z w) ∧ (∀ σ, Rep ν σ s z) ∧ (G s).run self a st k = .ok out := by
  rcases zeroC_ok hE t (badX m) G with g | ⟨s, z, i, g, hi, hz, hzr, hrep⟩
  · rw [g] at h; cases h
  · rw [g] at h; exact ⟨s, z, i, hi, hz, hzr, hrep, h⟩
theorem run_places (hE : EOk P E ν) (l : List Field) (h : allKnown E l = true) (w : World) :
    (l.mapM fun f => do pure (f.offset, ← Go.sizeOf f.type) : Sem (List (Nat × Nat))).run P w = .ok (l.map fun f => (f.offset, P.cellsOf f.type)) w := by
  induction l with
  | nil => simp
  | cons f l ih =>
    cases f with | mk fname ft foff a b c d =>
    simp only [allKnown] at h
    split at h
    · rename_i i hi
      have e := ih h
      rw [List.mapM_cons]
      simp only [Sem.run_bind, hE.size hi, Result.andThen_ok, Sem.run_pure]
      rw [e]
      simp [hE.cellsOf hi]
    · cases h
theorem buildC_ok (hE : EOk P E ν) {t : TypeId} {parts : List (Nat × Operand)} {self : Self} {a : A} {st : St} {k : SV → St → R} {out} (h : (buildC E nt t parts).run self a st k = .ok out) :
    ∃ v, k v st = .ok out ∧ ∀ σ act w, RepA ν σ nt a act → ∃ V, (Instr.build t (parts.map fun p => (p.1, act.eval p.2)).toArray).run P w = .ok V w ∧ Rep ν σ v V := by
  unfold buildC at h
  split at h
  · rename_i fs size bytes agg zero ht
    have hu := hE.und ht
    split at h
    · cases h
    rename_i hk
    obtain ⟨s, z, i, hi, hz, hzr, hrep, h⟩ := zeroC_xf hE h
    dsimp only at h
    obtain ⟨cs', h1, h2⟩ := fillC_ok (ν := ν) (placeM := fun (i : Nat) => (fs.map fun f => (f.offset, P.cellsOf f.type))[i]?) (fun i g => by
      rcases fieldC_ok hE t i badPL (fun off ft => sizeC E ft badPL fun s => g off s) with e | ⟨fs', fd, e1, e2, e3⟩
      · exact .inl e
      · rw [e3]
        rcases sizeC_ok (E := E) fd.type badPL (fun s => g fd.offset s) with e | ⟨j, e4, e5⟩
        · exact .inl e
        · have : fs' = fs := by have h3 := e1.symm.trans hu; injection h3 with h3; injection h3
          subst this
          exact .inr ⟨fd.offset, j.size, by simp [e2, hE.cellsOf e4], e5⟩) parts h
    refine ⟨_, h1, fun σ act w ha => ?_⟩
    obtain ⟨C', h3, h4⟩ := h2 σ act z.cells ha (hrep σ).cells
    refine ⟨.agg C', ?_, by simp only [Rep]; exact ⟨C', rfl, h4⟩⟩
    have hpl := run_places hE fs.toList hk w
    simp only [Instr.build, Sem.run_bind, hzr w, Result.andThen_ok, run_underlying hu]
    rw [Array.mapM_eq_mapM_toList]
    simp only [Sem.run_map, hpl, Result.andThen_ok]
    have e : (fun (x : Nat) => ((List.map (fun f : Field => (f.offset, P.cellsOf f.type)) fs.toList).toArray)[x]?) = (fun (i : Nat) => (fs.map fun f => (f.offset, P.cellsOf f.type))[i]?) := by
      funext x; simp
    simp only [e, h3]
    rfl
  · rename_i len elem size bytes agg zero ht
    have hu := hE.und ht
    unfold sizeC at h
    split at h
    case h_2 => cases h
    rename_i u2 esz bytes2 agg2 zero2 hel
    rw [forceN_eq] at h
    obtain ⟨s, z, i, hi, hz, hzr, hrep, h⟩ := zeroC_xf hE h
    dsimp only at h
    obtain ⟨cs', h1, h2⟩ := fillC_ok (ν := ν) (placeM := fun i => some (i * esz, esz)) (fun i g => .inr ⟨i * esz, esz, rfl, forceN_eq _ _⟩) parts h
    refine ⟨_, h1, fun σ act w ha => ?_⟩
    obtain ⟨C', h3, h4⟩ := h2 σ act z.cells ha (hrep σ).cells
    refine ⟨.agg C', ?_, by simp only [Rep]; exact ⟨C', rfl, h4⟩⟩
    simp only [Instr.build, Sem.run_bind, hzr w, Result.andThen_ok, run_underlying hu, hE.size hel]
    simp only [h3]
    rfl
  · cases h

/-! allocations -/
theorem repZ_eq {β : Type} (n : Nat) (z : List SV) : ∀ (k : List SV → β), repZ n z k = k (List.replicate n z).flatten := by
  induction n with
  | zero => intro k; rfl
  | succ n ih => intro k; simp only [repZ]; rw [ih, appLK_eq]; rfl
theorem RepL.flatten {σ : Sg} {z : List SV} {Z : List Value} (h : RepL ν σ z Z) (n : Nat) : RepL ν σ (List.replicate n z).flatten (List.replicate n Z).flatten := by
  induction n with
  | zero => exact RepL.nil
  | succ n ih => simp only [List.replicate_succ, List.flatten_cons]; exact h.append ih
theorem replicate_flatten_get (Z : List Value) (n j : Nat) : (List.replicate n Z).flatten[j]? = if j < n * Z.length then Z[j % Z.length]? else none := by
  induction n generalizing j with
  | zero => simp
  | succ n ih =>
    simp only [List.replicate_succ, List.flatten_cons]
    by_cases h : j < Z.length
    · rw [List.getElem?_append_left h, if_pos (by rw [Nat.succ_mul]; omega), Nat.mod_eq_of_lt h]
    · rw [List.getElem?_append_right (by omega), ih]
      have e : (j - Z.length) % Z.length = j % Z.length := by
        have := Nat.add_mod_right (j - Z.length) Z.length
        rw [Nat.sub_add_cancel (by omega)] at this
        exact this.symm
      rw [e, Nat.succ_mul]
      by_cases g : j < n * Z.length + Z.length
      · rw [if_pos g, if_pos (by omega)]
      · rw [if_neg g, if_neg (by omega)]
theorem zeros_eq (Z : Array Value) (n s : Nat) (h : Z.size = s) : ((Array.range (n * s)).map (Z[· % Z.size]!)).toList = (List.replicate n Z.toList).flatten := by
  apply List.ext_getElem?
  intro j
  rw [replicate_flatten_get]
  simp only [Array.toList_map, Array.toList_range, List.getElem?_map, Array.length_toList, h]
  by_cases g : j < n * s
  · rw [if_pos g]
    have hs : 0 < s := by
      rcases Nat.eq_zero_or_pos s with e | e
      · subst e; simp at g
      · exact e
    have hm : j % s < Z.size := by rw [h]; exact Nat.mod_lt _ hs
    simp [g, hm]
  · rw [if_neg g]; simp [g]
end Go.Ev
namespace Go.Ev
open Go
variable {ν : Nat → Int} {P : Program} {E : Env} {base : Nat} {nt : Nat}

theorem zeroC_nf (hE : EOk P E ν) {t : TypeId} {m : String} {G : SV → NF} {a : A} {k : AB → (Nat → SV) → R} {out} (h : (zeroC E t (badN m) G).run a k = .ok out) :
    ∃ s z i, getT E.ty t = some i ∧ i.zero = some z ∧ (∀ w, (Go.zeroValue t).run P w = .ok z w) ∧ (∀ σ, Rep ν σ s z) ∧ (G s).run a k = .ok out := by
  rcases zeroC_ok hE t (badN m) G with g | ⟨s, z, i, g, hi, hz, hzr, hrep⟩
  · rw [g] at h; cases h
  · rw [g] at h; exact ⟨s, z, i, hi, hz, hzr, hrep, h⟩
theorem fits_ok {n bytes : Nat} (h : fits n bytes = true) : (2 * n + 256) * bytes ≤ 281474976710656 ∧ n ≤ 9223372036854775807 := by
  unfold fits at h
  split at h
  · rename_i h1
    exact ⟨Nat.le_of_ble_eq_true h1, Nat.le_of_ble_eq_true h⟩
  · cases h
theorem made_list (z : Array Value) (n s : Nat) (h : z.size = s) : (madeCells z (n * s)).toList = (List.replicate n z.toList).flatten := zeros_eq z n s h
theorem run_buildS {t elem : TypeId} {s len : Nat} {z : Value} {w : World} {ps : Array (Nat × Value)} {C : Array Value} (hu : P.underlying t = some (.slice elem)) (hs : ∀ w, (Go.sizeOf elem).run P w = .ok s w)
    (hz : ∀ w, (Go.zeroValue elem).run P w = .ok z w) (hle : len * s ≤ 16777216) (hf : Instr.fill (fun i => some (i * s, s)) (madeCells z.cells (len * s)) ps.toList = some C) :
    (Instr.buildSlice t len ps).run P w = .ok (.slice (some ⟨w.heap.size, 0, none⟩) len len) { w with heap := w.heap.push (.cells C elem (0, 0)) } := by
  have hle' : ¬ (2 ^ 24 < len * s) := by omega
  have n1 : ¬ (16777216 < len * s) := by omega
  by_cases e : len * s = 0
  · have e2 : madeCells z.cells (len * s) = #[] := by rw [e]; simp [madeCells, Array.range_zero']
    rw [e2] at hf
    simp [Instr.buildSlice, run_underlying hu, hs w, e, Array.range_zero', hf, newRow]
  · simp only [madeCells] at hf
    simp [Instr.buildSlice, run_underlying hu, hs w, hz w, n1, e, hf, newRow]
/-- what an allocation lays, and what it yields -/
theorem newC_ok (hE : EOk P E ν) {op : Op} {a : A} {k : AB → (Nat → SV) → R} {out} (h : (newC E nt op).run a k = .ok out) :
    ∃ b f, k b f = .ok out ∧ ∀ σ act w (o : Oper), o.op = op → RepA ν σ nt a act →
      ∃ obj z V, (execOp act.eval o).run P w = .ok (.value V) { w with heap := w.heap.push obj } ∧ (∀ τ, σ.le τ → b.Is P ν τ z obj) ∧ (∀ n (τ : Sg), τ n = some (w.heap.size, z) → Rep ν τ (f n) V) := by
  cases op <;> dsimp only [newC] at h <;> try (cases h; done)
  case alloc t =>
    obtain ⟨s, z, i, hi, hz, hzr, hrep, h⟩ := zeroC_nf hE h
    refine ⟨_, _, h, fun σ act w o ho ha => ⟨.cells z.cells t (0, 0), 0, .pointer (some ⟨w.heap.size, 0, none⟩), ?_, fun τ _ => ⟨z.cells, rfl, (hrep τ).cells⟩, fun n τ e => by simp only [Rep]; exact ⟨_, _, e, rfl⟩⟩⟩
    simp [execOp, ho, Instr.alloc, hzr w, newVar, newRow]
  case box t x =>
    obtain ⟨v, h1, h2⟩ := opC_ok (ν := ν) h
    refine ⟨_, _, h1, fun σ act w o ho ha => ⟨.cells (act.eval x).cells t (0, 0), 0, .pointer (some ⟨w.heap.size, 0, none⟩), ?_, fun τ hle => ⟨_, rfl, ((h2 σ act ha).mono hle).cells⟩, fun n τ e => by simp only [Rep]; exact ⟨_, _, e, rfl⟩⟩⟩
    simp [execOp, ho, Instr.box, newVar, newRow]
  case buildSlice t len parts =>
    split at h
    case h_2 => cases h
    rename_i elem size bytes agg zero ht
    have hu := hE.und ht
    unfold sizeC at h
    split at h
    case h_2 => cases h
    rename_i u2 esz bytes2 agg2 zero2 hel
    rw [forceN_eq] at h
    split at h
    · cases h
    rename_i hle
    have hle := Nat.le_of_ble_eq_true hle
    obtain ⟨s, z, i, hi, hz, hzr, hrep, h⟩ := zeroC_nf hE h
    split at h
    · cases h
    rename_i hb
    have hsl : s.cells.length = esz := by rw [← lenL_eq]; exact Nat.eq_of_beq_eq_true hb
    rw [repZ_eq] at h
    dsimp only at h
    obtain ⟨cs', h1, h2⟩ := fillC_ok (ν := ν) (placeM := fun i => some (i * esz, esz)) (fun i g => .inr ⟨i * esz, esz, rfl, forceN_eq _ _⟩) parts.toList h
    refine ⟨_, _, h1, fun σ act w o ho ha => ?_⟩
    have hzs : z.cells.size = esz := by have := (hrep σ).cells.length; simp at this; omega
    obtain ⟨C', h3, h4⟩ := h2 σ act (madeCells z.cells (len * esz)) ha (by rw [made_list _ _ _ hzs]; exact (hrep σ).cells.flatten len)
    refine ⟨.cells C' elem (0, 0), 0, .slice (some ⟨w.heap.size, 0, none⟩) len len, ?_, fun τ hl => ⟨C', rfl, h4.mono hl⟩, fun n τ e => ?_⟩
    · have e1 : (parts.map fun x => (x.1, act.eval x.2)).toList = parts.toList.map fun p => (p.1, act.eval p.2) := by simp
      have hr := run_buildS (P := P) (w := w) (ps := parts.map fun x => (x.1, act.eval x.2)) hu (fun w => hE.size hel w) hzr hle (by rw [e1]; exact h3)
      simp [execOp, ho, hr]
    · simp only [Rep]
      exact ⟨_, _, len, len, e, rfl, rfl, Nat.le_refl _, fun d hd => by cases hd; rfl, fun hd => by cases hd⟩
  case makeMap t r =>
    cases r <;> dsimp only at h <;> try (cases h; done)
    refine ⟨_, _, h, fun σ act w o ho ha => ⟨.map #[] 0, 0, .map (some w.heap.size), ?_, fun τ _ => ⟨#[], 0, fun _ => rfl, rfl, .nil⟩, fun n τ e => by simp only [Rep]; exact ⟨_, _, e, rfl⟩⟩⟩
    simp [execOp, ho, Instr.makeMap]
  case makeSlice t l c =>
    split at h
    case h_2 => cases h
    rename_i elem size bytes agg zero ht
    have hu := hE.und ht
    unfold typeC at h
    split at h
    case h_2 => cases h
    rename_i i hel
    cases i with | mk u2 esz bytes2 agg2 zero2 =>
    dsimp only at h
    rw [forceN_eq] at h
    obtain ⟨s, z, i, hi, hz, hzr, hrep, h⟩ := zeroC_nf hE h
    split at h
    · cases h
    rename_i hb
    have hsl : s.cells.length = esz := by rw [← lenL_eq]; exact Nat.eq_of_beq_eq_true hb
    dsimp only at h
    obtain ⟨lv, h1, g1⟩ := opC_ok (ν := ν) h
    obtain ⟨cv, h2, g2⟩ := opC_ok (ν := ν) h1
    split at h2
    case h_2 => cases h2
    split at h2
    case h_2 => cases h2
    split at h2
    case h_2 => cases h2
    split at h2
    case h_2 => cases h2
    rename_i kl ln _ kc cn _ hln _ hfit
    have hln := Nat.le_of_ble_eq_true hln
    obtain ⟨hf1, hf2⟩ := fits_ok hfit
    rw [repZ_eq] at h2
    refine ⟨_, _, h2, fun σ act w o ho ha => ?_⟩
    have hzs : z.cells.size = esz := by have := (hrep σ).cells.length; simp at this; omega
    have e1 := g1 σ act ha
    have e2 := g2 σ act ha
    simp only [Rep, SInt.val] at e1 e2
    obtain ⟨x, hx1, hx2, hx3, hx4⟩ := (hE.ty elem _ hel).2.1
    have hzz : x.zero = some z := by
      have := hi.symm.trans hel; cases this; rw [hx4]; exact hz
    refine ⟨.cells (madeCells z.cells (cn * esz)) elem (0, 0), 0, .slice (some ⟨w.heap.size, 0, none⟩) ln cn, ?_, fun τ hl => ⟨_, rfl, by rw [made_list _ _ _ hzs]; exact (hrep τ).cells.flatten cn⟩, fun n τ e => ?_⟩
    · have hbytes : (x.bytes : Int) * (cn : Int) ≤ 281474976710656 := by
        rw [hx3]
        have h5 : bytes2 * cn ≤ (2 * cn + 256) * bytes2 := by rw [Nat.mul_comm]; exact Nat.mul_le_mul_right _ (by omega)
        have h6 : ((bytes2 * cn : Nat) : Int) ≤ 281474976710656 := by omega
        simpa using h6
      have hr := run_make (P := P) w t elem x z hu hx1 hzz kl kc (ln : Int) (cn : Int) (by omega) (by omega) hbytes (by omega)
      simp only [Int.toNat_natCast, hx2] at hr
      have e1' : act.eval l = .int kl (ln : Int) := e1
      have e2' : act.eval c = .int kc (cn : Int) := e2
      simp only [execOp, ho, e1', e2', Sem.run_bind, hr, Result.andThen_ok, Sem.run_pure]
      rfl
    · simp only [Rep]
      exact ⟨_, _, ln, cn, e, rfl, rfl, hln, fun d hd => by cases hd; rfl, fun hd => by cases hd⟩
end Go.Ev
namespace Go.Ev
open Go
variable {ν : Nat → Int} {P : Program} {E : Env} {base : Nat} {nt : Nat}

/-- the bounds of a slicing -/
def OptRep (ν : Nat → Int) (σ : Sg) (v : Option SV) (V : Option Value) : Prop := (v = none ∧ V = none) ∨ ∃ s x, v = some s ∧ V = some x ∧ Rep ν σ s x
theorem boundK_ok {o : Option SV} {d y : Nat} {k : Nat → R} {out} (h : boundK o d y k = .ok out) :
    ∃ n, k n = .ok out ∧ (o = none → n = d) ∧ (o ≠ none → n ≤ y) ∧ ∀ σ V z, OptRep ν σ o V → (V = none ∧ o = none ∧ n = d) ∨
      ∃ x, V = some x ∧ o ≠ none ∧ (n ≤ z → ∀ code w, (Instr.sliceBound x z code).run P w = .ok n w) := by
  unfold boundK at h
  split at h
  · refine ⟨d, h, fun _ => rfl, fun e => absurd rfl e, fun σ V z hV => ?_⟩
    rcases hV with ⟨_, e⟩ | ⟨s, x, e, _⟩
    · exact .inl ⟨e, rfl, rfl⟩
    · cases e
  · rename_i v
    split at h
    · rename_i ik i
      split at h
      · rename_i hb
        have hb := Nat.le_of_ble_eq_true hb
        refine ⟨i, h, fun e => (nomatch e), fun _ => hb, fun σ V z hV => ?_⟩
        rcases hV with ⟨e, _⟩ | ⟨s, x, e1, e2, e3⟩
        · cases e
        · cases e1
          simp only [Rep, SInt.val] at e3
          refine .inr ⟨x, e2, by simp, fun hz code w => ?_⟩
          subst e3
          have h0 : (0 : Int) ≤ Int.ofNat i ∧ (Int.ofNat i) ≤ (z : Int) := ⟨Int.natCast_nonneg i, by show (i : Int) ≤ (z : Int); omega⟩
          simp only [Instr.sliceBound, asIntOf, Sem.run_bind, Sem.run_pure, Result.andThen_ok, Sem.run_ite, h0, and_self, if_true]
          rfl
      · cases h
    · cases h
theorem bounds3_ok {hi mx : Option SV} {k : R} {out} (h : bounds3 hi mx k = .ok out) : k = .ok out ∧ (mx = none ∨ hi ≠ none) := by
  unfold bounds3 at h
  split at h
  · exact ⟨h, .inl rfl⟩
  · split at h
    · cases h
    · exact ⟨h, .inr (by simp)⟩

/-- sliceBounds, of whatever bounds were read -/
theorem bounds_run {isSlice : Bool} {len cap m h l : Nat} {lo hi mx : Option Value}
    (hm : (mx = none ∧ m = cap) ∨ ∃ x, mx = some x ∧ ∀ code w, (Instr.sliceBound x cap code).run P w = .ok m w)
    (hh : (hi = none ∧ mx = none ∧ h = len) ∨ ∃ x, hi = some x ∧ ∀ code w, (Instr.sliceBound x m code).run P w = .ok h w)
    (hl : (lo = none ∧ l = 0) ∨ ∃ x, lo = some x ∧ ∀ code w, (Instr.sliceBound x h code).run P w = .ok l w) (w : World) :
    (Instr.sliceBounds isSlice len cap lo hi mx).run P w = .ok (l, h, m) w := by
  rcases hm with ⟨rfl, rfl⟩ | ⟨xm, rfl, hm⟩ <;> rcases hh with ⟨rfl, e, rfl⟩ | ⟨xh, rfl, hh⟩ <;> rcases hl with ⟨rfl, rfl⟩ | ⟨xl, rfl, hl⟩ <;>
    (try cases e) <;> simp [Instr.sliceBounds, *]
theorem slc3_ok {n off sz l h m : Nat} {k : SV → R} {out} (hk : slc3 n off sz l h m k = .ok out) :
    ∃ v, k v = .ok out ∧ ∀ σ b z, σ n = some (b, z) → l ≤ h → h ≤ m →
      Rep ν σ v (.slice (some (if m = l then (⟨b, off, none⟩ : Addr) else (⟨b, off, none⟩ : Addr).add (l * sz))) (h - l) (m - l)) := by
  unfold slc3 at hk
  rw [forceN_eq, forceN_eq] at hk
  split at hk
  · rename_i hb
    have e := Nat.eq_of_beq_eq_true hb
    refine ⟨_, hk, fun σ b z hs h1 h2 => ?_⟩
    simp only [Rep]
    exact ⟨b, z, h - l, m - l, hs, by rw [if_pos e], rfl, by omega, fun d hd => by cases hd; rfl, fun hd => by cases hd⟩
  · rename_i hb
    have e : m ≠ l := fun e => by rw [beqT e] at hb; cases hb
    rw [forceN_eq] at hk
    refine ⟨_, hk, fun σ b z hs h1 h2 => ?_⟩
    simp only [Rep]
    exact ⟨b, z, h - l, m - l, hs, by rw [if_neg e, Addr.add_eq], rfl, by omega, fun d hd => by cases hd; rfl, fun hd => by cases hd⟩

theorem sliceC_ok (hE : EOk P E ν) {t : TypeId} {x : SV} {lo hi mx : Option SV} {k : SV → R} {out} (h : (sliceC E t).run x lo hi mx k = .ok out) :
    ∃ v, k v = .ok out ∧ ∀ σ X Lo Hi Mx w, Rep ν σ x X → OptRep ν σ lo Lo → OptRep ν σ hi Hi → OptRep ν σ mx Mx → ∃ V, (Instr.sliceAt t X Lo Hi Mx).run P w = .ok V w ∧ Rep ν σ v V := by
  unfold sliceC at h
  split at h
  · rename_i size bytes agg zero ht
    have hu := hE.und ht
    dsimp only at h
    split at h
    case h_2 => cases h
    rename_i s
    split at h
    · cases h
    obtain ⟨h', h1, h0, h0', hh⟩ := boundK_ok (P := P) (ν := ν) h
    obtain ⟨l', h2, l0, l0', hl⟩ := boundK_ok (P := P) (ν := ν) h1
    refine ⟨_, h2, fun σ X Lo Hi Mx w hX hLo hHi hMx => ⟨.string (s.extract l' h'), ?_, by simp only [Rep]⟩⟩
    simp only [Rep] at hX; subst hX
    have eM : Mx = none := by
      rcases hMx with ⟨_, e⟩ | ⟨_, _, e, _⟩
      · exact e
      · cases e
    subst eM
    have hb := bounds_run (P := P) (isSlice := false) (len := s.size) (cap := s.size) (m := s.size) (h := h') (l := l') (lo := Lo) (hi := Hi) (mx := none) (.inl ⟨rfl, rfl⟩)
      (by
        rcases hh σ Hi s.size hHi with ⟨e, e2, e3⟩ | ⟨x, e, e2, e3⟩
        · exact .inl ⟨e, rfl, e3⟩
        · exact .inr ⟨x, e, e3 (h0' e2)⟩)
      (by
        rcases hl σ Lo h' hLo with ⟨e, e2, e3⟩ | ⟨x, e, e2, e3⟩
        · exact .inl ⟨e, e3⟩
        · exact .inr ⟨x, e, e3 (l0' e2)⟩) w
    simp [Instr.sliceAt, Instr.slice, run_underlying hu, hb]
  · rename_i elem size bytes agg zero ht
    have hu := hE.und ht
    unfold sizeC at h
    split at h
    case h_2 => cases h
    rename_i u2 esz bytes2 agg2 zero2 hel
    rw [forceN_eq] at h
    dsimp only at h
    have hb3 := bounds3_ok h
    clear h
    obtain ⟨h, hb3⟩ := hb3
    split at h
    · -- nil
      obtain ⟨m', h1, m0, m0', hm⟩ := boundK_ok (P := P) (ν := ν) h
      obtain ⟨h', h2, h0, h0', hh⟩ := boundK_ok (P := P) (ν := ν) h1
      obtain ⟨l', h3, l0, l0', hl⟩ := boundK_ok (P := P) (ν := ν) h2
      have em : m' = 0 := by by_cases e : mx = none; · exact m0 e
                             · have := m0' e; omega
      have eh : h' = 0 := by by_cases e : hi = none; · exact h0 e
                             · have := h0' e; omega
      have el : l' = 0 := by by_cases e : lo = none; · exact l0 e
                             · have := l0' e; omega
      subst em eh el
      refine ⟨_, h3, fun σ X Lo Hi Mx w hX hLo hHi hMx => ⟨.slice none 0 0, ?_, by simp only [Rep]⟩⟩
      simp only [Rep] at hX; subst hX
      have hb := bounds_run (P := P) (isSlice := true) (len := 0) (cap := 0) (m := 0) (h := 0) (l := 0) (lo := Lo) (hi := Hi) (mx := Mx)
        (by
          rcases hm σ Mx 0 hMx with ⟨e, e2, e3⟩ | ⟨x, e, e2, e3⟩
          · exact .inl ⟨e, rfl⟩
          · exact .inr ⟨x, e, e3 (Nat.le_refl _)⟩)
        (by
          rcases hh σ Hi 0 hHi with ⟨e, e2, e3⟩ | ⟨x, e, e2, e3⟩
          · refine .inl ⟨e, ?_, rfl⟩
            rcases hb3 with g | g
            · subst g
              rcases hMx with ⟨_, e⟩ | ⟨_, _, e, _⟩
              · exact e
              · cases e
            · exact absurd e2 g
          · exact .inr ⟨x, e, e3 (Nat.le_refl _)⟩)
        (by
          rcases hl σ Lo 0 hLo with ⟨e, e2, e3⟩ | ⟨x, e, e2, e3⟩
          · exact .inl ⟨e, rfl⟩
          · exact .inr ⟨x, e, e3 (Nat.le_refl _)⟩) w
      simp [Instr.sliceAt, Instr.slice, run_underlying hu, hb, hE.size hel]
    · rename_i n off len cap
      have hMxN : ∀ {σ : Sg} {Mx : Option Value}, mx = none → OptRep ν σ mx Mx → Mx = none := by
        intro σ Mx e hV
        rcases hV with ⟨_, e2⟩ | ⟨_, _, e2, _⟩
        · exact e2
        · rw [e] at e2; cases e2
      split at h
      · rename_i c
        obtain ⟨m', h1, m0, m0', hm⟩ := boundK_ok (P := P) (ν := ν) h
        obtain ⟨h', h2, h0, h0', hh⟩ := boundK_ok (P := P) (ν := ν) h1
        obtain ⟨l', h3, l0, l0', hl⟩ := boundK_ok (P := P) (ν := ν) h2
        obtain ⟨v, h4, h5⟩ := slc3_ok (ν := ν) h3
        refine ⟨v, h4, fun σ X Lo Hi Mx w hX hLo hHi hMx => ?_⟩
        simp only [Rep, SInt.val] at hX
        obtain ⟨b, z, l, c', g1, rfl, g2, g3, g4, g5⟩ := hX
        have el : l = len := by have h5 : (Int.ofNat len) = (l : Int) := g2; simp at h5; omega
        subst el
        have ec : c' = c := g4 c rfl
        subst ec
        have hmc : m' ≤ c' := by by_cases e : mx = none; · have := m0 e; omega
                                 · exact m0' e
        have hhm : h' ≤ m' := by
          by_cases e : hi = none
          · have e1 := h0 e
            rcases hb3 with g | g
            · have := m0 g; omega
            · exact absurd e g
          · exact h0' e
        have hlh : l' ≤ h' := by by_cases e : lo = none; · have := l0 e; omega
                                 · exact l0' e
        have hb := bounds_run (P := P) (isSlice := true) (len := l) (cap := c') (m := m') (h := h') (l := l') (lo := Lo) (hi := Hi) (mx := Mx)
          (by
            rcases hm σ Mx c' hMx with ⟨e, e2, e3⟩ | ⟨x, e, e2, e3⟩
            · exact .inl ⟨e, e3⟩
            · exact .inr ⟨x, e, e3 hmc⟩)
          (by
            rcases hh σ Hi m' hHi with ⟨e, e2, e3⟩ | ⟨x, e, e2, e3⟩
            · refine .inl ⟨e, ?_, e3⟩
              rcases hb3 with g | g
              · exact hMxN g hMx
              · exact absurd e2 g
            · exact .inr ⟨x, e, e3 hhm⟩)
          (by
            rcases hl σ Lo h' hLo with ⟨e, e2, e3⟩ | ⟨x, e, e2, e3⟩
            · exact .inl ⟨e, e3⟩
            · exact .inr ⟨x, e, e3 hlh⟩) w
        refine ⟨_, ?_, h5 σ b z g1 hlh hhm⟩
        by_cases e : m' = l' <;> simp [Instr.sliceAt, Instr.slice, run_underlying hu, hb, hE.size hel, e]
      · split at h
        · rename_i mx'
          obtain ⟨m', h1, m0, m0', hm⟩ := boundK_ok (P := P) (ν := ν) h
          obtain ⟨h', h2, h0, h0', hh⟩ := boundK_ok (P := P) (ν := ν) h1
          obtain ⟨l', h3, l0, l0', hl⟩ := boundK_ok (P := P) (ν := ν) h2
          obtain ⟨v, h4, h5⟩ := slc3_ok (ν := ν) h3
          refine ⟨v, h4, fun σ X Lo Hi Mx w hX hLo hHi hMx => ?_⟩
          simp only [Rep, SInt.val] at hX
          obtain ⟨b, z, l, c', g1, rfl, g2, g3, g4, g5⟩ := hX
          have el : l = len := by have h5 : (Int.ofNat len) = (l : Int) := g2; simp at h5; omega
          subst el
          have hml : m' ≤ l := m0' (by simp)
          have hhm : h' ≤ m' := by
            by_cases e : hi = none
            · rcases hb3 with g | g
              · cases g
              · exact absurd e g
            · exact h0' e
          have hlh : l' ≤ h' := by by_cases e : lo = none; · have := l0 e; omega
                                   · exact l0' e
          have hb := bounds_run (P := P) (isSlice := true) (len := l) (cap := c') (m := m') (h := h') (l := l') (lo := Lo) (hi := Hi) (mx := Mx)
            (by
              rcases hm σ Mx c' hMx with ⟨e, e2, e3⟩ | ⟨x, e, e2, e3⟩
              · cases e2
              · exact .inr ⟨x, e, e3 (by omega)⟩)
            (by
              rcases hh σ Hi m' hHi with ⟨e, e2, e3⟩ | ⟨x, e, e2, e3⟩
              · rcases hb3 with g | g
                · cases g
                · exact absurd e2 g
              · exact .inr ⟨x, e, e3 hhm⟩)
            (by
              rcases hl σ Lo h' hLo with ⟨e, e2, e3⟩ | ⟨x, e, e2, e3⟩
              · exact .inl ⟨e, e3⟩
              · exact .inr ⟨x, e, e3 hlh⟩) w
          refine ⟨_, ?_, h5 σ b z g1 hlh hhm⟩
          by_cases e : m' = l' <;> simp [Instr.sliceAt, Instr.slice, run_underlying hu, hb, hE.size hel, e]
        · obtain ⟨h', h2, h0, h0', hh⟩ := boundK_ok (P := P) (ν := ν) h
          obtain ⟨l', h3, l0, l0', hl⟩ := boundK_ok (P := P) (ν := ν) h2
          rw [forceN_eq] at h3
          have key : ∀ σ X Lo Hi Mx w, Rep ν σ (.slc n off (.lit (.ofNat len)) none) X → OptRep ν σ lo Lo → OptRep ν σ hi Hi → OptRep ν σ none Mx →
              l' ≤ h' ∧ h' ≤ len ∧ ∃ b z c, σ n = some (b, z) ∧ len ≤ c ∧ (off = 0 → c = z) ∧
              (Instr.sliceAt t X Lo Hi Mx).run P w = .ok (.slice (some (if c = l' then (⟨b, off, none⟩ : Addr) else (⟨b, off, none⟩ : Addr).add (l' * esz))) (h' - l') (c - l')) w := by
            intro σ X Lo Hi Mx w hX hLo hHi hMx
            simp only [Rep, SInt.val] at hX
            obtain ⟨b, z, l, c', g1, rfl, g2, g3, g4, g5⟩ := hX
            have el : l = len := by have h5 : (Int.ofNat len) = (l : Int) := g2; simp at h5; omega
            subst el
            have hhl : h' ≤ l := by by_cases e : hi = none; · have := h0 e; omega
                                    · exact h0' e
            have hlh : l' ≤ h' := by by_cases e : lo = none; · have := l0 e; omega
                                     · exact l0' e
            have eM := hMxN rfl hMx
            subst eM
            have hb := bounds_run (P := P) (isSlice := true) (len := l) (cap := c') (m := c') (h := h') (l := l') (lo := Lo) (hi := Hi) (mx := none) (.inl ⟨rfl, rfl⟩)
              (by
                rcases hh σ Hi c' hHi with ⟨e, e2, e3⟩ | ⟨x, e, e2, e3⟩
                · exact .inl ⟨e, rfl, e3⟩
                · exact .inr ⟨x, e, e3 (by omega)⟩)
              (by
                rcases hl σ Lo h' hLo with ⟨e, e2, e3⟩ | ⟨x, e, e2, e3⟩
                · exact .inl ⟨e, e3⟩
                · exact .inr ⟨x, e, e3 hlh⟩) w
            refine ⟨hlh, hhl, b, z, c', g1, g3, g5 trivial, ?_⟩
            by_cases e : c' = l'
            · subst e; simp [Instr.sliceAt, Instr.slice, run_underlying hu, hb, hE.size hel]
            · simp [Instr.sliceAt, Instr.slice, run_underlying hu, hb, hE.size hel, e]
          split at h3
          · rename_i hz
            have ez := Nat.eq_of_beq_eq_true hz
            subst ez
            refine ⟨_, h3, fun σ X Lo Hi Mx w hX hLo hHi hMx => ?_⟩
            obtain ⟨k1, k2, b, z, c, k3, k4, k5, k6⟩ := key σ X Lo Hi Mx w hX hLo hHi hMx
            refine ⟨_, k6, ?_⟩
            simp only [Rep, SInt.val]
            refine ⟨b, z, h' - 0, c - 0, k3, ?_, rfl, by omega, fun d hd => (nomatch hd), fun _ => by simpa using k5⟩
            rw [Addr.add_eq]; split <;> simp
          · rename_i hz
            have nz : l' ≠ 0 := fun e => by rw [beqT e] at hz; cases hz
            split at h3
            · rename_i hlt
              have hlt := ble_succ hlt
              split at h3
              · rename_i h1'
                have h1' := Nat.le_of_ble_eq_true h1'
                rw [forceN_eq] at h3
                refine ⟨_, h3, fun σ X Lo Hi Mx w hX hLo hHi hMx => ?_⟩
                obtain ⟨k1, k2, b, z, c, k3, k4, k5, k6⟩ := key σ X Lo Hi Mx w hX hLo hHi hMx
                refine ⟨_, k6, ?_⟩
                have : c ≠ l' := by omega
                simp only [Rep, SInt.val]
                exact ⟨b, z, h' - l', c - l', k3, by rw [if_neg this, Addr.add_eq], rfl, by omega, fun d hd => (nomatch hd), fun _ e => by omega⟩
              · cases h3
            · rename_i hge
              refine ⟨_, h3, fun σ X Lo Hi Mx w hX hLo hHi hMx => ?_⟩
              obtain ⟨k1, k2, b, z, c, k3, k4, k5, k6⟩ := key σ X Lo Hi Mx w hX hLo hHi hMx
              have hge' : len ≤ l' := by
                rcases Nat.lt_or_ge l' len with g | g
                · rw [show Nat.ble (Nat.succ l') len = true from Nat.ble_eq_true_of_le g] at hge; cases hge
                · exact g
              refine ⟨_, k6, ?_⟩
              simp only [Rep]
              exact ⟨_, c - l', by rw [show h' - l' = 0 by omega]⟩
    · cases h
  · rename_i len elem size bytes agg zero ht
    have hu := hE.und ht
    rw [forceN_eq] at h
    unfold sizeC at h
    split at h
    case h_2 => cases h
    rename_i u2 esz bytes2 agg2 zero2 hel
    rw [forceN_eq] at h
    dsimp only at h
    have hb3 := bounds3_ok h
    clear h
    obtain ⟨h, hb3⟩ := hb3
    split at h
    case h_2 => cases h
    rename_i n off
    obtain ⟨m', h1, m0, m0', hm⟩ := boundK_ok (P := P) (ν := ν) h
    obtain ⟨h', h2, h0, h0', hh⟩ := boundK_ok (P := P) (ν := ν) h1
    obtain ⟨l', h3, l0, l0', hl⟩ := boundK_ok (P := P) (ν := ν) h2
    obtain ⟨v, h4, h5⟩ := slc3_ok (ν := ν) h3
    refine ⟨v, h4, fun σ X Lo Hi Mx w hX hLo hHi hMx => ?_⟩
    simp only [Rep] at hX
    obtain ⟨b, z, g1, rfl⟩ := hX
    have hmc : m' ≤ len := by by_cases e : mx = none; · have := m0 e; omega
                              · exact m0' e
    have hhm : h' ≤ m' := by
      by_cases e : hi = none
      · have e1 := h0 e
        rcases hb3 with g | g
        · have := m0 g; omega
        · exact absurd e g
      · exact h0' e
    have hlh : l' ≤ h' := by by_cases e : lo = none; · have := l0 e; omega
                             · exact l0' e
    have hb := bounds_run (P := P) (isSlice := false) (len := len) (cap := len) (m := m') (h := h') (l := l') (lo := Lo) (hi := Hi) (mx := Mx)
      (by
        rcases hm σ Mx len hMx with ⟨e, e2, e3⟩ | ⟨x, e, e2, e3⟩
        · exact .inl ⟨e, e3⟩
        · exact .inr ⟨x, e, e3 hmc⟩)
      (by
        rcases hh σ Hi m' hHi with ⟨e, e2, e3⟩ | ⟨x, e, e2, e3⟩
        · refine .inl ⟨e, ?_, e3⟩
          rcases hb3 with g | g
          · subst g
            rcases hMx with ⟨_, e⟩ | ⟨_, _, e, _⟩
            · exact e
            · cases e
          · exact absurd e2 g
        · exact .inr ⟨x, e, e3 hhm⟩)
      (by
        rcases hl σ Lo h' hLo with ⟨e, e2, e3⟩ | ⟨x, e, e2, e3⟩
        · exact .inl ⟨e, e3⟩
        · exact .inr ⟨x, e, e3 hlh⟩) w
    refine ⟨_, ?_, h5 σ b z g1 hlh hhm⟩
    simp [Instr.sliceAt, run_underlying hu, Instr.sureAddr, hb, hE.size hel]
  · cases h
end Go.Ev
namespace Go.Ev
open Go
variable {ν : Nat → Int} {P : Program} {E : Env} {base : Nat} {nt : Nat}

theorem mapC_ok {β : Type} (hE : EOk P E ν) (t : TypeId) (bad : β) (k : TypeId → β) :
    mapC E t bad k = bad ∨ ∃ key elem kk, P.underlying t = some (.map key elem) ∧ P.underlying key = some (.int kk) ∧ mapC E t bad k = k elem := by
  unfold mapC
  split
  · rename_i key elem size bytes agg zero ht
    split
    · rename_i kk size2 bytes2 agg2 zero2 hk
      exact .inr ⟨key, elem, kk, hE.und ht, hE.und hk, rfl⟩
    · exact .inl rfl
  · exact .inl rfl
theorem mapK_ok {m : SV} {st : St} {k : Nat → List ME → Nat → Bool → R} {out} (h : mapK m st k = .ok out) :
    ∃ n es clock x, m = .map n ∧ getT st.heap n = some (.map es clock x) ∧ k n es clock x = .ok out := by
  unfold mapK at h
  split at h
  · rename_i n
    obtain ⟨b, hb, hk⟩ := blockK_ok h
    cases b <;> dsimp only at hk <;> try (cases hk; done)
    rename_i es clock x
    exact ⟨n, es, clock, x, rfl, hb, hk⟩
  · cases h
theorem map_at {σ : Sg} {st : St} {w : World} (h : Sim P E ν base σ st w) {n : Nat} {es : List ME} {clock : Nat} {x : Bool} (hb : getT st.heap n = some (.map es clock x)) :
    ∃ b z Es d, σ n = some (b, z) ∧ w.heap[b]? = some (.map Es (clock + d)) ∧ RepM ν σ d es Es.toList ∧ (x = true → d = 0) := by
  obtain ⟨b, z, o, h1, h2, h3, Es, d, h6, h4, h5⟩ := h.blk n _ hb
  subst h4
  exact ⟨b, z, Es, d, h1, h3, h5, h6⟩
theorem run_checkKeyInt {kt : TypeId} {kk : IntKind} {K : Value} (h : P.underlying kt = some (.int kk)) (e : Bool) (n : Nat) (w : World) : (Instr.checkKey e (n + 1) kt K).run P w = .ok () w := by
  simp [Instr.checkKey, run_underlying h]

theorem findE_ok {σ : Sg} {d : Nat} {key : SV} {K : Value} (hK : Rep ν σ key K) (kk : IntKind) : ∀ {es : List ME} {Es : List MapEntry} (i : Nat) {r : Option (Nat × ME)}, RepM ν σ d es Es → findE key es i = some r →
    (r = none ∧ Instr.findNow (.int kk) K Es i = some none) ∨
    ∃ j e V, r = some (j, e) ∧ i ≤ j ∧ es[j - i]? = some e ∧ Es[j - i]? = some ⟨K, V, e.born + d⟩ ∧ Rep ν σ e.val V ∧ Instr.findNow (.int kk) K Es i = some (some (j, V)) := by
  intro es
  induction es with
  | nil =>
    intro Es i r hM h
    cases hM
    simp only [findE] at h; cases h
    exact .inl ⟨rfl, rfl⟩
  | cons e es ih =>
    intro Es i r hM h
    cases hM with
    | @cons k v born K2 V _ Es hk hv hM =>
    simp only [findE] at h
    split at h
    · rename_i he
      cases h
      obtain ⟨ik, a, c, rfl, rfl, e2⟩ := eqInt_ok he hK hk
      have : a = c := by simpa using e2.symm
      subst this
      refine .inr ⟨i, ⟨k, v, born⟩, V, rfl, Nat.le_refl _, by simp, by simp, hv, ?_⟩
      simp [Instr.findNow, Instr.sameNow]
    · rename_i he
      obtain ⟨ik, a, c, rfl, rfl, e2⟩ := eqInt_ok he hK hk
      have hne : (a == c) = false := e2.symm
      have step : Instr.findNow (.int kk) (.int ik a) (⟨.int ik c, V, born + d⟩ :: Es) i = Instr.findNow (.int kk) (.int ik a) Es (i + 1) := by
        simp [Instr.findNow, Instr.sameNow, hne]
      rcases ih (i + 1) hM h with ⟨h1, h2⟩ | ⟨j, e, V', h1, h2, h3, h4, h5, h6⟩
      · exact .inl ⟨h1, by rw [step]; exact h2⟩
      · refine .inr ⟨j, e, V', h1, by omega, ?_, ?_, h5, by rw [step]; exact h6⟩
        · rw [show j - i = (j - (i + 1)) + 1 by omega]; simpa using h3
        · rw [show j - i = (j - (i + 1)) + 1 by omega]; simpa using h4
    · cases h
/-- a key that was looked for is an integer -/
theorem findE_int {σ : Sg} {key : SV} {K : Value} (hK : Rep ν σ key K) {es : List ME} {i : Nat} {r} (h : findE key es i = some r) (hne : es ≠ []) : ∃ k x, K = .int k x := by
  cases es with
  | nil => exact absurd rfl hne
  | cons e es =>
    cases e with | mk ky v born =>
    simp only [findE] at h
    have : ∃ b, eqInt key ky = some b := by
      cases hq : eqInt key ky with
      | none => rw [hq] at h; cases h
      | some b => exact ⟨b, rfl⟩
    obtain ⟨b, hb⟩ := this
    unfold eqInt at hb
    split at hb
    · simp only [Rep] at hK; exact ⟨_, _, hK⟩
    · cases hb

end Go.Ev
namespace Go.Ev
open Go
variable {ν : Nat → Int} {P : Program} {E : Env} {base : Nat} {nt : Nat}

theorem run_findKeyInt {kt : TypeId} {kk : IntKind} {K : Value} {l : List MapEntry} {a : Option (Nat × Value)} (hd : P.underlying kt = some (.int kk)) (h : Instr.findNow (.int kk) K l 0 = some a) (w : World) : (Instr.findKey kt K l).run P w = .ok a w :=
  MapKept.run_findKey hd h

theorem mapC_mf (hE : EOk P E ν) {t : TypeId} {s : String} {G : TypeId → MF} {m key : SV} {st : St} {k : SV → R} {out} (h : (mapC E t ⟨fun _ _ _ _ => .err s⟩ G).run m key st k = .ok out) :
    ∃ kt elem kk, P.underlying t = some (.map kt elem) ∧ P.underlying kt = some (.int kk) ∧ (G elem).run m key st k = .ok out := by
  rcases mapC_ok hE t (⟨fun _ _ _ _ => .err s⟩ : MF) G with g | ⟨kt, elem, kk, h1, h2, g⟩
  · rw [g] at h; cases h
  · rw [g] at h; exact ⟨kt, elem, kk, h1, h2, h⟩
theorem mapC_xf (hE : EOk P E ν) {t : TypeId} {s : String} {G : TypeId → XF} {self : Self} {a : A} {st : St} {k : SV → St → R} {out} (h : (mapC E t (badX s) G).run self a st k = .ok out) :
    ∃ kt elem kk, P.underlying t = some (.map kt elem) ∧ P.underlying kt = some (.int kk) ∧ (G elem).run self a st k = .ok out := by
  rcases mapC_ok hE t (badX s) G with g | ⟨kt, elem, kk, h1, h2, g⟩
  · rw [g] at h; cases h
  · rw [g] at h; exact ⟨kt, elem, kk, h1, h2, h⟩
theorem zeroC_mf (hE : EOk P E ν) {t : TypeId} {s : String} {G : SV → MF} {m key : SV} {st : St} {k : SV → R} {out} (h : (zeroC E t ⟨fun _ _ _ _ => .err s⟩ G).run m key st k = .ok out) :
    ∃ s z i, getT E.ty t = some i ∧ i.zero = some z ∧ (∀ w, (Go.zeroValue t).run P w = .ok z w) ∧ (∀ σ, Rep ν σ s z) ∧ (G s).run m key st k = .ok out := by
  rcases zeroC_ok hE t (⟨fun _ _ _ _ => .err s⟩ : MF) G with g | ⟨s, z, i, g, hi, hz, hzr, hrep⟩
  · rw [g] at h; cases h
  · rw [g] at h; exact ⟨s, z, i, hi, hz, hzr, hrep, h⟩
theorem pairR_ok {c : Bool} {v : SV} {ok : Bool} {k : SV → R} {out} (h : pairR c v ok k = .ok out) :
    ∃ u, k u = .ok out ∧ ∀ σ V, Rep ν σ v V → Rep ν σ u (if c then .tuple #[V, .bool ok] else V) := by
  unfold pairR at h
  split at h
  · have h1 := boolR_ok (k := fun b => k (SV.tup [v, b])) h
    exact ⟨_, h1, fun σ V hV => by simp only [if_true, Rep]; exact ⟨_, rfl, RepL.cons hV (RepL.one (by simp only [Rep]))⟩⟩
  · exact ⟨v, h, fun σ V hV => by simpa using hV⟩
theorem lookupC_ok (hE : EOk P E ν) {t : TypeId} {c : Bool} {m key : SV} {st : St} {k : SV → R} {out} (h : (lookupC E t c).run m key st k = .ok out) :
    ∃ v, k v = .ok out ∧ ∀ σ w M K, Sim P E ν base σ st w → Rep ν σ m M → Rep ν σ key K → ∃ V, (Instr.lookup t M K c).run P w = .ok V w ∧ Rep ν σ v V := by
  unfold lookupC at h
  obtain ⟨kt, elem, kk, hu, hk, h⟩ := mapC_mf hE h
  obtain ⟨s, z, i, hi, hz, hzr, hrep, h⟩ := zeroC_mf hE h
  dsimp only at h
  split at h
  · obtain ⟨u, h1, h2⟩ := pairR_ok (ν := ν) h
    refine ⟨u, h1, fun σ w M K hs hM hK => ⟨_, ?_, h2 σ z (hrep σ)⟩⟩
    simp only [Rep] at hM; subst hM
    have hf : (Instr.findKey kt K []).run P w = .ok none w := run_findKeyInt hk (by rfl) w
    simp [Instr.lookup, run_underlying hu, run_checkKeyInt hk, hf, hzr w]
  · obtain ⟨n, es, clock, x0, rfl, hb, h⟩ := mapK_ok h
    split at h
    · rename_i j e hfe
      obtain ⟨u, h1, h2⟩ := pairR_ok (ν := ν) h
      refine ⟨u, h1, fun σ w M K hs hM hK => ?_⟩
      obtain ⟨b, y, Es, d, g1, g2, g3, g0⟩ := map_at hs hb
      simp only [Rep] at hM
      obtain ⟨b', y', g4, rfl⟩ := hM
      rw [g1] at g4; cases g4
      rcases findE_ok hK kk 0 g3 hfe with ⟨e1, _⟩ | ⟨j', e', V, e1, _, _, _, e5, e6⟩
      · cases e1
      · cases e1
        refine ⟨_, ?_, h2 σ V e5⟩
        simp [Instr.lookup, run_underlying hu, run_checkKeyInt hk, MapKept.run_getObj_map g2, run_findKeyInt hk e6]
    · rename_i hfe
      obtain ⟨u, h1, h2⟩ := pairR_ok (ν := ν) h
      refine ⟨u, h1, fun σ w M K hs hM hK => ?_⟩
      obtain ⟨b, y, Es, d, g1, g2, g3, g0⟩ := map_at hs hb
      simp only [Rep] at hM
      obtain ⟨b', y', g4, rfl⟩ := hM
      rw [g1] at g4; cases g4
      rcases findE_ok hK kk 0 g3 hfe with ⟨_, e6⟩ | ⟨j', e', V, e1, _⟩
      · refine ⟨_, ?_, h2 σ z (hrep σ)⟩
        simp [Instr.lookup, run_underlying hu, run_checkKeyInt hk, MapKept.run_getObj_map g2, run_findKeyInt hk e6, hzr w]
      · cases e1
    · cases h

theorem RepM.length {σ : Sg} {d : Nat} {es : List ME} {Es : List MapEntry} (h : RepM ν σ d es Es) : Es.length = es.length := by
  induction h with
  | nil => rfl
  | cons _ _ _ ih => simp [ih]
theorem RepM.append {σ : Sg} {d : Nat} {es fs : List ME} {Es Fs : List MapEntry} (h : RepM ν σ d es Es) (g : RepM ν σ d fs Fs) : RepM ν σ d (es ++ fs) (Es ++ Fs) := by
  induction h with
  | nil => exact g
  | cons hk hv _ ih => exact .cons hk hv ih
theorem RepM.set {σ : Sg} {d : Nat} {es : List ME} {Es : List MapEntry} (h : RepM ν σ d es Es) : ∀ (i : Nat) {k v : SV} {K V : Value} {born : Nat}, Rep ν σ k K → Rep ν σ v V → RepM ν σ d (es.set i ⟨k, v, born⟩) (Es.set i ⟨K, V, born + d⟩) := by
  induction h with
  | nil => intro i k v K V born _ _; exact .nil
  | cons hk hv h ih =>
    intro i k v K V born gk gv
    cases i with
    | zero => exact .cons gk gv h
    | succ i => exact .cons hk hv (ih i gk gv)
theorem RepM.erase {σ : Sg} {d : Nat} {es : List ME} {Es : List MapEntry} (h : RepM ν σ d es Es) : ∀ (i : Nat), RepM ν σ d (es.eraseIdx i) (Es.eraseIdx i) := by
  induction h with
  | nil => intro i; exact .nil
  | cons hk hv h ih =>
    intro i
    cases i with
    | zero => exact h
    | succ i => exact .cons hk hv (ih i)
theorem eraseLK_eq {α β : Type} : ∀ (l : List α) (i : Nat) (k : List α → β), eraseLK l i k = k (l.eraseIdx i) := by
  intro l
  induction l with
  | nil => intro i k; rfl
  | cons a l ih => intro i k; cases i with
    | zero => rfl
    | succ i => simp only [eraseLK]; rw [ih]; rfl
theorem sameBits_int (n : Nat) (k : IntKind) (x : Int) : Instr.sameBits n (.int k x) (.int k x) = true := by
  cases n <;> simp [Instr.sameBits]

theorem mapUpdateK_ok {t kt elem : TypeId} {kk : IntKind} (hu : P.underlying t = some (.map kt elem)) (hk : P.underlying kt = some (.int kk)) {m key v : SV} {st : St} {k : St → R} {out} (h : mapUpdateK m key v st k = .ok out) :
    ∃ st', k st' = .ok out ∧ ∀ σ w M K V, Sim P E ν base σ st w → Rep ν σ m M → Rep ν σ key K → Rep ν σ v V → ∃ w', (Instr.mapUpdate t M K V).run P w = .ok () w' ∧ Goes P E ν base σ st w σ st' w' := by
  unfold mapUpdateK at h
  obtain ⟨n, es, clock, x0, rfl, hb, h⟩ := mapK_ok h
  split at h
  · rename_i j e hfe
    cases e with | mk ek ev born =>
    dsimp only at h
    rw [setLK_eq] at h
    obtain ⟨st', h1, h2⟩ := setK_goes (P := P) (E := E) (ν := ν) (base := base) h
    refine ⟨st', h1, fun σ w M K V hs hM hK hV => ?_⟩
    obtain ⟨b, y, Es, d, g1, g2, g3, g0⟩ := map_at hs hb
    simp only [Rep] at hM
    obtain ⟨b', y', g4, rfl⟩ := hM
    rw [g1] at g4; cases g4
    rcases findE_ok hK kk 0 g3 hfe with ⟨e1, _⟩ | ⟨j', e', V', e1, _, e3, e4, e5, e6⟩
    · cases e1
    · cases e1
      simp only [Nat.sub_zero] at e3 e4
      have hne : es ≠ [] := by rintro rfl; simp at e3
      obtain ⟨ik, x, rfl⟩ := findE_int hK hfe hne
      have hlt : j < Es.size := by have := (List.getElem?_eq_some_iff.1 e4).1; simpa using this
      have e4' : Es[j]? = some ⟨.int ik x, V', born + d⟩ := by rw [← Array.getElem?_toList]; exact e4
      have hv : Es[j] = ⟨.int ik x, V', born + d⟩ := by rw [Array.getElem?_eq_getElem hlt] at e4'; exact Option.some.inj e4'
      refine ⟨_, ?_, h2 σ w _ (.map (Es.modify j fun e => { e with key := .int ik x, val := V }) (clock + d)) b y hs hb g1 (fun c e => by
        cases e
        refine ⟨_, d, g0, rfl, ?_⟩
        have := g3.set j (born := born) hK hV
        have e7 : (Es.modify j fun e => { e with key := .int ik x, val := V }).toList = Es.toList.set j ⟨.int ik x, V, born + d⟩ := by
          rw [Array.toList_modify]
          apply List.ext_getElem?
          intro q
          rw [List.getElem?_modify, List.getElem?_set]
          by_cases e8 : j = q
          · subst e8
            have hlt' : j < Es.toList.length := by simpa using hlt
            rw [Array.getElem?_toList, e4']
            simp [hlt]
          · simp [e8]
        rw [e7]; exact this)⟩
      simp [Instr.mapUpdate, run_underlying hu, run_checkKeyInt hk, MapKept.run_getObj_map g2, run_findKeyInt hk e6, Instr.keyThatStays, e4', sameBits_int, MapKept.run_setObj_map _ g2]
  · rename_i hfe
    rw [appLK_eq, forceN_eq] at h
    obtain ⟨st', h1, h2⟩ := setK_goes (P := P) (E := E) (ν := ν) (base := base) h
    refine ⟨st', h1, fun σ w M K V hs hM hK hV => ?_⟩
    obtain ⟨b, y, Es, d, g1, g2, g3, g0⟩ := map_at hs hb
    simp only [Rep] at hM
    obtain ⟨b', y', g4, rfl⟩ := hM
    rw [g1] at g4; cases g4
    rcases findE_ok hK kk 0 g3 hfe with ⟨_, e6⟩ | ⟨j', e', V', e1, _⟩
    · refine ⟨_, ?_, h2 σ w _ (.map (Es.push ⟨K, V, clock + d⟩) (clock + d + 1)) b y hs hb g1 (fun c e => by
        cases e
        exact ⟨_, d, g0, by rw [Nat.add_right_comm], by rw [Array.toList_push]; exact g3.append (.cons hK hV .nil)⟩)⟩
      simp [Instr.mapUpdate, run_underlying hu, run_checkKeyInt hk, MapKept.run_getObj_map g2, run_findKeyInt hk e6, MapKept.run_setObj_map _ g2]
    · cases e1
  · cases h
theorem deleteK_ok {t kt elem : TypeId} {ts : Array TypeId} {kk : IntKind} (hts : ts[0]? = some t) (hu : P.underlying t = some (.map kt elem)) (hk : P.underlying kt = some (.int kk)) {m key : SV} {st : St} {k : SV → St → R} {out} (h : deleteK m key st k = .ok out) :
    ∃ st', k undefS st' = .ok out ∧ ∀ (ty : TypeId) σ w M K, Sim P E ν base σ st w → Rep ν σ m M → Rep ν σ key K → ∃ w', (Builtin.delete_ ts ty #[M, K]).run P w = .ok (.tuple #[]) w' ∧ Goes P E ν base σ st w σ st' w' := by
  unfold deleteK at h
  split at h
  · refine ⟨st, h, fun ty σ w M K hs hM hK => ⟨w, ?_, .refl hs⟩⟩
    simp only [Rep] at hM; subst hM
    simp [Builtin.delete_, hts, run_underlying hu, run_checkKeyInt hk]
  · obtain ⟨n, es, clock, x0, rfl, hb, h⟩ := mapK_ok h
    split at h
    · rename_i j e hfe
      rw [eraseLK_eq] at h
      obtain ⟨st', h1, h2⟩ := setK_goes (P := P) (E := E) (ν := ν) (base := base) h
      refine ⟨st', h1, fun ty σ w M K hs hM hK => ?_⟩
      obtain ⟨b, y, Es, d, g1, g2, g3, g0⟩ := map_at hs hb
      simp only [Rep] at hM
      obtain ⟨b', y', g4, rfl⟩ := hM
      rw [g1] at g4; cases g4
      rcases findE_ok hK kk 0 g3 hfe with ⟨e1, _⟩ | ⟨j', e', V', e1, _, e3, e4, e5, e6⟩
      · cases e1
      · cases e1
        refine ⟨_, ?_, h2 σ w _ (.map (Es.eraseIdxIfInBounds j) (clock + d)) b y hs hb g1 (fun c e => by
          cases e
          exact ⟨_, d, g0, rfl, by rw [Array.toList_eraseIdxIfInBounds]; exact g3.erase j⟩)⟩
        simp [Builtin.delete_, hts, run_underlying hu, run_checkKeyInt hk, MapKept.run_getObj_map g2, run_findKeyInt hk e6, MapKept.run_setObj_map _ g2]
    · rename_i hfe
      refine ⟨st, h, fun ty σ w M K hs hM hK => ?_⟩
      obtain ⟨b, y, Es, d, g1, g2, g3, g0⟩ := map_at hs hb
      simp only [Rep] at hM
      obtain ⟨b', y', g4, rfl⟩ := hM
      rw [g1] at g4; cases g4
      rcases findE_ok hK kk 0 g3 hfe with ⟨_, e6⟩ | ⟨j', e', V', e1, _⟩
      · have hlt : b < w.heap.size := (Array.getElem?_eq_some_iff.1 g2).1
        have hv : w.heap[b] = .map Es (clock + d) := by have := g2; rw [Array.getElem?_eq_getElem hlt] at this; exact Option.some.inj this
        have e7 : { w with heap := w.heap.setIfInBounds b (.map Es (clock + d)) } = w := by
          cases w with | mk heap tape drawn os output =>
          simp only at hv ⊢
          congr 1
          apply Array.ext
          · simp
          · intro q h1 h2
            by_cases e8 : b = q
            · subst e8; simp [hv]
            · rw [Array.getElem_setIfInBounds_ne _ e8]
        refine ⟨w, ?_, .refl hs⟩
        have hset := MapKept.run_setObj_map (P := P) (.map Es (clock + d)) g2
        rw [e7] at hset
        simp [Builtin.delete_, hts, run_underlying hu, run_checkKeyInt hk, MapKept.run_getObj_map g2, run_findKeyInt hk e6, hset]
      · cases e1
    · cases h
end Go.Ev
namespace Go.Ev
open Go
variable {ν : Nat → Int} {P : Program} {E : Env} {base : Nat} {nt : Nat}

theorem mapLK_bytes (l : List UInt8) (k : List SV → R) : mapLK (fun (c : UInt8) kk => forceN c.toNat (fun n => kk (.int .u8 (.lit (.ofNat n))))) l k = k (l.map fun c => .int .u8 (.lit (.ofNat c.toNat))) := by
  induction l generalizing k with
  | nil => rfl
  | cons a l ih => simp only [mapLK]; rw [forceN_eq, ih]; rfl
theorem RepL.bytes (σ : Sg) (l : List UInt8) : RepL ν σ (l.map fun c => .int .u8 (.lit (.ofNat c.toNat))) (l.map fun b => Value.int .u8 b.toNat) := by
  induction l with
  | nil => exact RepL.nil
  | cons a l ih => exact RepL.cons (by simp only [Rep]; rfl) ih

theorem lenOf_ok {x : SV} {k : Nat → R} {out} (h : lenOf x k = .ok out) :
    ∃ n, k n = .ok out ∧ ∀ σ X, Rep ν σ x X → ∀ w, (Builtin.lenOf X).run P w = .ok n w := by
  cases x <;> dsimp only [lenOf] at h <;> try (cases h; done)
  case nils => exact ⟨0, h, fun σ X hX w => by simp only [Rep] at hX; subst hX; rfl⟩
  case slc0 => exact ⟨0, h, fun σ X hX w => by simp only [Rep] at hX; obtain ⟨a, c, rfl⟩ := hX; rfl⟩
  case slc n off len cap =>
    cases len <;> (try dsimp only at h) <;> try (cases h; done)
    rename_i m
    cases m <;> (try dsimp only at h) <;> try (cases h; done)
    rename_i m
    refine ⟨m, h, fun σ X hX w => ?_⟩
    simp only [Rep, SInt.val] at hX
    obtain ⟨b, z, l, c, h1, rfl, h2, h3⟩ := hX
    have e : l = m := by have h5 : (Int.ofNat m) = (l : Int) := h2; simp at h5; omega
    subst e; rfl
  case str s =>
    rw [forceN_eq] at h
    exact ⟨s.size, h, fun σ X hX w => by simp only [Rep] at hX; subst hX; rfl⟩

theorem cellsOfK_ok {sz n : Nat} {x : SV} {st : St} {k : List SV → R} {out} (h : cellsOfK sz n x st k = .ok out) :
    ∃ cs, k cs = .ok out ∧ ∀ σ w X, Sim P E ν base σ st w → Rep ν σ x X → cs.length = n * sz →
      ∃ Cs : List Value, RepL ν σ cs Cs ∧ (Builtin.firstCells sz n X).run P w = .ok Cs.toArray w ∧ (Builtin.firstCells sz n X).run P w.drew = .ok Cs.toArray w.drew ∧ ∀ u ∈ Cs, u.oneCell' = true := by
  cases x <;> dsimp only [cellsOfK] at h <;> try (cases h; done)
  case nils => exact ⟨[], h, fun σ w X hs hX _ => by
    simp only [Rep] at hX; subst hX
    exact ⟨[], RepL.nil, run_firstCells_none .., run_firstCells_none .., fun u hu => by cases hu⟩⟩
  case slc0 => exact ⟨[], h, fun σ w X hs hX hl => by
    simp only [Rep] at hX; obtain ⟨a, c, rfl⟩ := hX
    exact ⟨[], RepL.nil, run_firstCells_some w sz n a 0 c [] (by simpa using hl) (fun j v e => by simp at e), run_firstCells_some w.drew sz n a 0 c [] (by simpa using hl) (fun j v e => by simp at e), fun u hu => by cases hu⟩⟩
  case slc m off len cap =>
    have row : ∀ {kk : List SV → Nat → R}, cellsOfK.rowK0 m off st kk = .ok out → ∃ cs, kk cs off = .ok out ∧ ∀ σ w, Sim P E ν base σ st w →
        ∃ b z C t f L M, σ m = some (b, z) ∧ w.heap[b]? = some (.cells C t f) ∧ C.toList = L ++ M ∧ RepL ν σ cs L := by
      intro kk hk
      unfold cellsOfK.rowK0 at hk
      obtain ⟨b, hb, hk⟩ := blockK_ok hk
      cases b <;> dsimp only at hk <;> try (cases hk; done)
      case cells cs t =>
        refine ⟨cs, hk, fun σ w hs => ?_⟩
        obtain ⟨bl, z, o, g1, g2, g3, C, g4, g5⟩ := hs.blk m _ hb
        subst g4
        exact ⟨bl, z, C, t, _, C.toList, [], g1, g3, by simp, g5⟩
      case vec cs t =>
        refine ⟨cs, hk, fun σ w hs => ?_⟩
        obtain ⟨bl, z, o, g1, g2, g3, C, L, M, g4, g5, g6, g7⟩ := hs.blk m _ hb
        subst g4
        exact ⟨bl, z, C, t, _, L, M, g1, g3, g5, g6⟩
    obtain ⟨cs, hk, hrow⟩ := row h
    obtain ⟨hn, hk⟩ := takeLK_ok hk
    rw [dropL_eq] at hn hk
    split at hk
    case h_2 => cases hk
    rename_i hone
    refine ⟨_, hk, fun σ w X hs hX hl => ?_⟩
    obtain ⟨b, z, C, t, f, L, M, h1, h2, h3, h4⟩ := hrow σ w hs
    simp only [Rep] at hX
    obtain ⟨b', z', l, c, g1, rfl, g2⟩ := hX
    rw [h1] at g1; cases g1
    obtain ⟨U, u1, u2, u3, u4⟩ := load_cells (P := P) h2 h3 h4 hn
    exact ⟨U.toList, u2, run_firstCells_some w sz n _ l c U.toList u4 u3, run_firstCells_some w.drew sz n _ l c U.toList u4 (fun j V e => u3 j V e), allOne_ok hone u2⟩
  case str s =>
    split at h
    case h_2 => cases h
    rename_i e1
    split at h
    case h_2 => cases h
    rename_i e2
    have e1 := Nat.eq_of_beq_eq_true e1
    have e2 := Nat.eq_of_beq_eq_true e2
    subst e1 e2
    rw [mapLK_bytes] at h
    refine ⟨_, h, fun σ w X hs hX hl => ?_⟩
    simp only [Rep] at hX; subst hX
    refine ⟨byteCells s, RepL.bytes σ s.data.toList, firstCells_string s w, firstCells_string s w.drew, fun u hu => ?_⟩
    obtain ⟨_, _, rfl⟩ := List.mem_map.1 hu
    rfl

theorem run_append_in {t tx ty e : TypeId} {i : TypeInfo} (ht : P.underlying t = some (.slice e)) (hi : P.info? e = some i) {b off sLen sCap : Nat} {x : Value} {n : Nat} {news : List Value} {w : World} (hs : Src P i.size tx x n news w)
    (hroom : sLen + n ≤ sCap) {cur : Array Value} {ct : TypeId} (hg : w.heap[b]? = some (.cells cur ct (0, 0))) (hfit : off + sLen * i.size + news.length ≤ cur.size) :
    (Builtin.append_ #[t, tx] ty #[.slice (some ⟨b, off, none⟩) sLen sCap, x]).run P w =
      .ok (.slice (some ⟨b, off, none⟩) (sLen + n) sCap) { w with heap := w.heap.setIfInBounds b (.cells (cur.toList.take (off + sLen * i.size) ++ news ++ cur.toList.drop (off + sLen * i.size + news.length)).toArray ct (0, 0)) } := by
  have hst := run_storeCells_at P b (off + sLen * i.size) ct news 0 cur w hg (by simpa using hfit) hs.one
  rw [setRow_set hg] at hst
  simp only [Nat.add_zero] at hst
  rcases hs.kind with ⟨e', hk⟩ | hk <;> simp [Builtin.append_, run_underlying ht, run_underlying hk, sizeOf, typeInfo, hi, hs.len, hroom, hs.cells, Addr.add_eq, hst]

/-- a new row behind a draw -/
theorem goes_vec {σ : Sg} {st st' : St} {w : World} {n : Nat} {cs : List SV} {t : TypeId} {Cs Z : List Value} {cap : Nat} (h : Sim P E ν base σ st w) (hn : st.next ≤ n) (hn' : n < st'.next)
    (hh : ∀ m, getT st'.heap m = if m = n then some (.vec cs t) else getT st.heap m) (hC : RepL ν σ cs Cs) (hsz : Cs.length + Z.length = cap * P.cellsOf t) (hcm : cap ≤ maxLen) :
    Goes P E ν base σ st w (σ.add n (w.heap.size, cap)) st' (w.drew.alloc (.cells (Cs ++ Z).toArray t)) := by
  have h2 := goes_new (h.drawn (w.drawn + 1)) hn hn' hh (o := .cells (Cs ++ Z).toArray t (0, 0)) (z := cap) ⟨_, Cs, Z, rfl, by simp, hC.mono (Sg.le_add _ (h.fresh n hn)), by simpa using hsz, hcm⟩
  exact (Goes.drawn h (w.drawn + 1)).trans h2

/-- a name given up -/
theorem goes_drop {σ : Sg} {st st' : St} {w : World} (h : Sim P E ν base σ st w) (hnx : st'.next = st.next) (hh : ∀ m b, getT st'.heap m = some b → getT st.heap m = some b) :
    Goes P E ν base σ st w σ st' w :=
  ⟨⟨fun _ _ => rfl, by omega, Nat.le_refl _, fun _ _ _ => rfl, fun n c b z h1 e => .inl ⟨n, c, z, hh _ _ h1, e⟩, rfl, rfl, rfl⟩,
    ⟨fun m hm => h.fresh m (by omega), fun m c hm => h.blk m c (hh _ _ hm), fun n m b c bl z y h1 h2 => h.inj n m b c bl z y (hh _ _ h1) (hh _ _ h2), h.glob, h.size⟩⟩

/-- a block written and given another name -/
theorem goes_regrow {σ : Sg} {st st' : St} {w : World} {n : Nat} {b0 b' : AB} {o : Obj} {bl z : Nat} (h : Sim P E ν base σ st w) (hn : getT st.heap n = some b0) (hs : σ n = some (bl, z))
    (hnx : st'.next = st.next + 1) (hh : ∀ m, getT st'.heap m = if m = st.next then some b' else if m = n then none else getT st.heap m) (hb : b'.Is P ν (σ.add st.next (bl, z)) z o) :
    Goes P E ν base σ st w (σ.add st.next (bl, z)) st' { w with heap := w.heap.setIfInBounds bl o } := by
  obtain ⟨bl', z', o', h1, h2, h3, _⟩ := h.blk n b0 hn
  rw [hs] at h1; cases h1
  have hlt : bl < w.heap.size := (Array.getElem?_eq_some_iff.1 h3).1
  have hnn : n < st.next := h.lt hs
  have hle : σ.le (σ.add st.next (bl, z)) := Sg.le_add _ (h.fresh _ (Nat.le_refl _))
  refine ⟨⟨fun m hm => Sg.add_ne _ _ (by omega), by omega, by simp, fun x hx hu => ?_, fun m c b1 y hm eb => ?_, rfl, rfl, rfl⟩, ?_⟩
  · have : bl ≠ x := fun e => hu n b0 z hn (e ▸ hs)
    simp [Array.getElem?_setIfInBounds_ne this]
  · rw [hh] at hm
    by_cases e : m = st.next
    · subst e; rw [Sg.add_self] at eb; cases eb; exact .inl ⟨n, b0, z, hn, hs⟩
    · rw [if_neg e] at hm; rw [Sg.add_ne _ _ e] at eb
      by_cases e2 : m = n
      · rw [if_pos e2] at hm; cases hm
      · rw [if_neg e2] at hm; exact .inl ⟨m, c, y, hm, eb⟩
  have other : ∀ {m c x y}, getT st.heap m = some c → m ≠ n → σ m = some (x, y) → bl ≠ x := fun hm e k1 e2 => e (by subst e2; exact h.inj _ n _ b0 bl _ z hm hn k1 hs)
  refine ⟨fun m hm => by rw [Sg.add_ne _ _ (by omega)]; exact h.fresh m (by omega), fun m c hm => ?_, fun m k c d x y u hm hk em ek => ?_, fun g cs e => ?_, by simpa using h.size⟩
  · rw [hh] at hm
    by_cases e : m = st.next
    · subst e; rw [if_pos rfl] at hm; cases hm
      exact ⟨bl, z, o, Sg.add_self _ _ _, h2, by simp [hlt], hb⟩
    · rw [if_neg e] at hm
      by_cases e2 : m = n
      · rw [if_pos e2] at hm; cases hm
      · rw [if_neg e2] at hm
        obtain ⟨x, y, u, k1, k2, k3, k4⟩ := h.blk m c hm
        exact ⟨x, y, u, hle _ _ k1, k2, by simp [Array.getElem?_setIfInBounds_ne (other hm e2 k1), k3], k4.mono hle⟩
  · rw [hh] at hm hk
    by_cases e : m = st.next
    · by_cases e3 : k = st.next
      · omega
      · subst e; rw [Sg.add_self] at em; cases em
        rw [if_neg e3] at hk; rw [Sg.add_ne _ _ e3] at ek
        by_cases e4 : k = n
        · rw [if_pos e4] at hk; cases hk
        · rw [if_neg e4] at hk; exact absurd rfl (other hk e4 ek)
    · rw [if_neg e] at hm; rw [Sg.add_ne _ _ e] at em
      by_cases e2 : m = n
      · rw [if_pos e2] at hm; cases hm
      · rw [if_neg e2] at hm
        by_cases e3 : k = st.next
        · subst e3; rw [Sg.add_self] at ek; cases ek
          exact absurd rfl (other hm e2 em)
        · rw [if_neg e3] at hk; rw [Sg.add_ne _ _ e3] at ek
          by_cases e4 : k = n
          · rw [if_pos e4] at hk; cases hk
          · rw [if_neg e4] at hk; exact h.inj m k c d x y u hm hk em ek
  · obtain ⟨k1, C, t, f, k2, k3⟩ := h.glob g cs e
    have : bl ≠ g := by omega
    exact ⟨k1, C, t, f, by simp [Array.getElem?_setIfInBounds_ne this, k2], k3.mono hle⟩
end Go.Ev
namespace Go.Ev
open Go
variable {ν : Nat → Int} {P : Program} {E : Env} {base : Nat} {nt : Nat}

theorem appendVec_ok {elem : TypeId} {ls lx : Nat} {cs : List SV} {st : St} {k : SV → St → R} {out} (h : appendVec elem ls lx cs st k = .ok out) :
    ∃ st', k (.slc st.next 0 (.lit (.ofNat (ls + lx))) none) st' = .ok out ∧ st'.next = st.next + 1 ∧ ∀ m, getT st'.heap m = if m = st.next then some (.vec cs elem) else getT st.heap m := by
  unfold appendVec at h
  obtain ⟨st', h1, h2, h3⟩ := newK_ok h
  rw [forceN_eq] at h1
  exact ⟨st', h1, h2, h3⟩
theorem rep_vec {σ : Sg} {n l cap b : Nat} (h : l ≤ cap) (hs : σ n = some (b, cap)) : Rep ν σ (.slc n 0 (.lit (.ofNat l)) none) (.slice (some ⟨b, 0, none⟩) l cap) := by
  simp only [Rep]
  exact ⟨b, cap, l, cap, hs, rfl, rfl, h, fun d hd => (nomatch hd), fun _ _ => rfl⟩
theorem grow_sizes {n m c : Nat} {z : Value} {s : Nat} (hz : z.cells.size = s) {L : List Value} (hL : L.length = n * s) (hm : n = m) (hc : m ≤ c) :
    L.length + (Builtin.zeroCells z.cells (c - m)).toList.length = c * s := by
  have e : (Builtin.zeroCells z.cells (c - m)).toList.length = (c - m) * s := by
    rw [Array.length_toList (xs := Builtin.zeroCells z.cells (c - m)), size_zeroCells, hz]
  rw [e, hL, hm, ← Nat.add_mul]
  congr 1; omega

theorem appendK_ok (hE : EOk P E ν) {t tx elem : TypeId} (ht : P.underlying t = some (.slice elem)) (hk : (∃ e', P.underlying tx = some (.slice e')) ∨ P.underlying tx = some .string)
    {i : TyI} (hel : getT E.ty elem = some i) {z : Value} (hz : i.zero = some z) (hzs : z.cells.size = i.size) {s x : SV} {st : St} {k : SV → St → R} {out} (h : appendK elem i.size i.bytes s x st k = .ok out) :
    ∃ v st', k v st' = .ok out ∧ ∀ (ty : TypeId) σ w S X, Sim P E ν base σ st w → Rep ν σ s S → Rep ν σ x X →
      ∃ V w' σ', (Builtin.append_ #[t, tx] ty #[S, X]).run P w = .ok V w' ∧ Rep ν σ' v V ∧ Goes P E ν base σ st w σ' st' w' := by
  unfold appendK at h
  have h0 := lenOf_ok (P := P) (ν := ν) h; clear h; obtain ⟨ls, h, hls⟩ := h0
  have h0 := lenOf_ok (P := P) (ν := ν) h; clear h; obtain ⟨lx, h, hlx⟩ := h0
  split at h
  · cases h
  rename_i hfit
  obtain ⟨hf1, hf2⟩ := fits_ok hfit
  have h0 := cellsOfK_ok (P := P) (E := E) (ν := ν) (base := base) h; clear h; obtain ⟨new, h, hnew⟩ := h0
  split at h
  · cases h
  rename_i hnl
  have hnl : new.length = lx * i.size := by rw [← lenL_eq]; exact Nat.eq_of_beq_eq_true hnl
  obtain ⟨ti, hti, hsize, hbytes, hzero⟩ := (hE.ty elem i hel).2.1
  have hzero' : ti.zero = some z := by rw [hzero]; exact hz
  have hzs' : z.cells.size = ti.size := by rw [hsize]; exact hzs
  have hco : P.cellsOf elem = i.size := hE.cellsOf hel
  have src : ∀ σ w X, Sim P E ν base σ st w → Rep ν σ x X → ∃ news, RepL ν σ new news ∧ Src P ti.size tx X lx news w := by
    intro σ w X hs hX
    obtain ⟨Cs, c1, c2, c3, c4⟩ := hnew σ w X hs hX hnl
    rw [← hsize] at c2 c3
    exact ⟨Cs, c1, hk, fun w' => hlx σ X hX w', c2, c3, by rw [c1.length, hnl, hsize], c4⟩
  have cap_fit : ∀ c, c < ls + lx → Builtin.nextslicecap (ls + lx) c * ti.bytes ≤ 281474976710656 := by
    intro c hc
    rw [hbytes]
    have h1 := nextslicecap_le hc
    exact Nat.le_trans (Nat.mul_le_mul_right _ (by omega)) hf1
  have h63 : ((ls + lx : Nat) : Int) ≤ 9223372036854775807 := by omega
  have nothing : ∀ {ty σ w S X base0 c}, Sim P E ν base σ st w → S = .slice base0 ls c → ls ≤ c → lx = 0 → Rep ν σ x X → (Builtin.append_ #[t, tx] ty #[S, X]).run P w = .ok S w := by
    intro ty σ w S X base0 c hs e hle e0 hX
    subst e
    obtain ⟨news, n1, n2⟩ := src σ w X hs hX
    subst e0
    have : news = [] := List.length_eq_zero_iff.1 (by rw [n2.newsLen, Nat.zero_mul])
    subst this
    exact run_append_nothing w t tx ty elem ti ht hti base0 ls c hle X n2
  split at h
  · -- nil
    rename_i _
    split at h
    · refine ⟨_, st, h, fun ty σ w S X hs hS hX => ⟨S, w, σ, ?_, hS, .refl hs⟩⟩
      have hS' := hS
      simp only [Rep] at hS'
      have e0 : ls = 0 := by have := hls σ S hS w; rw [hS'] at this; simp [Builtin.lenOf] at this; exact this.symm
      exact nothing (base0 := none) (c := 0) hs (by rw [hS', e0]) (by omega) rfl hX
    · obtain ⟨st', h1, h2, h3⟩ := appendVec_ok h
      rename_i hn0
      refine ⟨_, st', h1, fun ty σ w S X hs hS hX => ?_⟩
      have hS' := hS
      simp only [Rep] at hS'
      have e0 : ls = 0 := by have := hls σ S hS w; rw [hS'] at this; simp [Builtin.lenOf] at this; exact this.symm
      have hlx0 : 0 < lx := Nat.pos_of_ne_zero (fun e => hn0 (by rw [e]))
      obtain ⟨news, n1, n2⟩ := src σ w X hs hX
      have hold : (Builtin.firstCells ti.size ls (.slice none ls 0)).run P w.drew = .ok ([] : List Value).toArray w.drew := run_firstCells_none ..
      have hr := run_append_grow_src w t tx ty elem ti z ht hti hzero' none ls 0 [] hold X lx news n2 (by omega) h63 (cap_fit 0 (by omega))
      have hg := grownCap_ge w (ls + lx) 0 elem
      rw [hS']
      subst e0
      refine ⟨_, _, σ.add st.next (w.heap.size, grownCap w (0 + lx) 0 elem), hr, ?_, ?_⟩
      · exact rep_vec (by omega) (Sg.add_self _ _ _)
      · have := goes_vec (Cs := news) (Z := (Builtin.zeroCells z.cells (grownCap w (0 + lx) 0 elem - (0 + lx))).toList) (cap := grownCap w (0 + lx) 0 elem) hs (Nat.le_refl _) (by omega) h3 n1 (by
          rw [hco]
          exact grow_sizes hzs (by rw [n1.length]; exact hnl) (by omega) hg) (grownCap_le_maxLen _ _ _ _ (by unfold maxLen; omega))
        have e : ((([] : List Value) ++ news).toArray ++ Builtin.zeroCells z.cells (grownCap w (0 + lx) 0 elem - (0 + lx))) = (news ++ (Builtin.zeroCells z.cells (grownCap w (0 + lx) 0 elem - (0 + lx))).toList).toArray := by
          apply Array.ext'; simp
        rw [e]; exact this
  · rename_i n off len cap
    split at h
    · refine ⟨_, st, h, fun ty σ w S X hs hS hX => ⟨S, w, σ, ?_, hS, .refl hs⟩⟩
      have hS' := hS
      simp only [Rep] at hS'
      obtain ⟨b, y, l, c, g1, rfl, g2, g3, g4⟩ := hS'
      have e0 : l = ls := by have := hls σ _ hS w; simp [Builtin.lenOf] at this; exact this
      subst e0
      exact nothing hs rfl g3 rfl hX
    · rename_i hn0
      have hlx0 : 0 < lx := Nat.pos_of_ne_zero (fun e => hn0 (by rw [e]))
      have h0 := blockK_ok h; clear h; obtain ⟨b0, hb, h⟩ := h0
      cases b0 <;> dsimp only at h <;> try (cases h; done)
      case vec cs bt =>
        split at h
        · cases h
        split at h
        · cases h
        rename_i hbt
        have hbt := Nat.eq_of_beq_eq_true hbt
        subst hbt
        split at h
        case h_2 => cases h
        split at h
        case h_2 => cases h
        rename_i hcl
        have hcl : cs.length = ls * i.size := by rw [← lenL_eq]; exact Nat.eq_of_beq_eq_true hcl
        have h0 := setK_ok h; clear h; obtain ⟨st1, h, s1, s2⟩ := h0
        rw [appLK_eq] at h
        obtain ⟨st', h1, h2, h3⟩ := appendVec_ok h
        rw [s1] at h1
        refine ⟨_, st', h1, fun ty σ w S X hs hS hX => ?_⟩
        have hS' := hS
        simp only [Rep] at hS'
        obtain ⟨b, y, l, c, g1, rfl, g2, g3, g4, g5⟩ := hS'
        have e0 : l = ls := by have := hls σ _ hS w; simp [Builtin.lenOf] at this; exact this
        subst e0
        have ec : c = y := g5 trivial trivial
        subst ec
        obtain ⟨bl', y', o, k1, k2, k3, C, L, M, k4, k5, k6, k7, k8⟩ := hs.blk n _ hb
        rw [g1] at k1; cases k1; subst k4
        obtain ⟨news, n1, n2⟩ := src σ w X hs hX
        have hnn : n < st.next := hs.lt g1
        have hheap : ∀ m, getT st'.heap m = if m = st.next then some (.vec (cs ++ new) bt) else if m = n then none else getT st.heap m := by
          intro m; rw [h3, s1]; split
          · rfl
          · exact s2 m
        have hLl : L.length = l * i.size := by rw [k6.length]; exact hcl
        have hCs : C.size = L.length + M.length := by rw [← Array.length_toList, k5, List.length_append]
        have hnl' : news.length = lx * i.size := by rw [n1.length]; exact hnl
        by_cases hroom : l + lx ≤ c
        · have hfit2 : l * i.size + lx * i.size ≤ C.size := by
            rw [k7, hco, ← Nat.add_mul]; exact Nat.mul_le_mul_right _ hroom
          have hr := run_append_in (P := P) (ty := ty) ht hti (b := b) (off := 0) (sLen := l) (sCap := c) n2 hroom k3 (by rw [hsize]; omega)
          refine ⟨_, _, σ.add st.next (b, c), hr, rep_vec hroom (Sg.add_self _ _ _), ?_⟩
          refine goes_regrow hs hb g1 (by omega) hheap ?_
          have hle : σ.le (σ.add st.next (b, c)) := Sg.le_add _ (hs.fresh _ (Nat.le_refl _))
          refine ⟨_, L ++ news, M.drop news.length, rfl, ?_, (k6.append n1).mono hle, ?_, k8⟩
          · rw [k5, hsize, Nat.zero_add, ← hLl]
            simp [List.drop_append]
          · rw [k5, hsize, Nat.zero_add, ← hLl]
            rw [← k7, hCs]
            simp [List.drop_append]; omega
        · have hold : (Builtin.firstCells ti.size l (.slice (some ⟨b, 0, none⟩) l c)).run P w.drew = .ok L.toArray w.drew := by
            refine run_firstCells_some w.drew ti.size l _ l c L (by rw [hLl, hsize]) (fun j V e => ?_)
            rw [Addr.add_eq, Nat.zero_add]
            have : w.drew.heap[b]? = some (.cells C bt (0, 0)) := k3
            rw [cell_of_row this]
            exact getElem_of_app k5 e
          have hr := run_append_grow_src w t tx ty bt ti z ht hti hzero' (some ⟨b, 0, none⟩) l c L hold X lx news n2 (by omega) h63 (cap_fit c (by omega))
          have hg := grownCap_ge w (l + lx) c bt
          have d1 : Goes P E ν base σ st w σ st1 w := goes_drop hs s1 (fun m b' hm => by
            rw [s2] at hm; split at hm
            · cases hm
            · exact hm)
          refine ⟨_, _, σ.add st.next (w.heap.size, grownCap w (l + lx) c bt), hr, rep_vec hg (Sg.add_self _ _ _), d1.trans ?_⟩
          have := goes_vec (Cs := L ++ news) (Z := (Builtin.zeroCells z.cells (grownCap w (l + lx) c bt - (l + lx))).toList) (cap := grownCap w (l + lx) c bt) d1.2 (Nat.le_refl _) (by omega) h3 (k6.append n1) (by
            rw [hco]
            exact grow_sizes (n := l + lx) hzs (by rw [List.length_append, hLl, hnl', ← Nat.add_mul]) rfl hg) (grownCap_le_maxLen _ _ _ _ (by unfold maxLen; omega))
          rw [s1] at this
          have e : ((L ++ news).toArray ++ Builtin.zeroCells z.cells (grownCap w (l + lx) c bt - (l + lx))) = ((L ++ news) ++ (Builtin.zeroCells z.cells (grownCap w (l + lx) c bt - (l + lx))).toList).toArray := by
            apply Array.ext'; simp
          rw [e]; exact this
      case cells cs bt =>
        split at h
        case h_2 => cases h
        rename_i c0
        split at h
        · rename_i hroom
          have hroom := Nat.le_of_ble_eq_true hroom
          have h0 := putLK_ok h; clear h; obtain ⟨hn, h⟩ := h0
          have h0 := setK_goes (P := P) (E := E) (ν := ν) (base := base) h; clear h; obtain ⟨st', h, hgo⟩ := h0
          rw [forceN_eq] at h
          refine ⟨_, st', h, fun ty σ w S X hs hS hX => ?_⟩
          have hS' := hS
          simp only [Rep] at hS'
          obtain ⟨b, y, l, c, g1, rfl, g2, g3, g4, g5⟩ := hS'
          have e0 : l = ls := by have := hls σ _ hS w; simp [Builtin.lenOf] at this; exact this
          subst e0
          have ec : c = c0 := g4 c0 rfl
          subst ec
          obtain ⟨bl', y', o, k1, k2, k3, C, k4, k5⟩ := hs.blk n _ hb
          rw [g1] at k1; cases k1; subst k4
          obtain ⟨news, n1, n2⟩ := src σ w X hs hX
          have hCl := k5.length
          have hnl2 := n1.length
          have hr := run_append_in (P := P) (ty := ty) ht hti (b := b) (off := off) (sLen := l) (sCap := c) n2 hroom k3 (by rw [hsize]; simp at hCl; omega)
          refine ⟨_, _, σ, hr, ?_, ?_⟩
          · simp only [Rep]
            exact ⟨b, y, l + lx, c, g1, rfl, rfl, hroom, fun d hd => by cases hd; rfl, fun hd => by cases hd⟩
          · refine hgo σ w _ _ b y hs hb g1 (fun c' e => ?_)
            cases e
            refine ⟨_, rfl, ?_⟩
            rw [hsize, hnl2]
            simpa using ((k5.take (off + l * i.size)).append n1).append (k5.drop (off + l * i.size + new.length))
        · rename_i hroom
          have hroom : c0 < ls + lx := by
            rcases Nat.lt_or_ge c0 (ls + lx) with g | g
            · exact g
            · rw [show Nat.ble (ls + lx) c0 = true from Nat.ble_eq_true_of_le g] at hroom; cases hroom
          have h0 := takeLK_ok h; clear h; obtain ⟨hn, h⟩ := h0
          rw [dropL_eq] at hn h
          rw [appLK_eq] at h
          obtain ⟨st', h1, h2, h3⟩ := appendVec_ok h
          refine ⟨_, st', h1, fun ty σ w S X hs hS hX => ?_⟩
          have hS' := hS
          simp only [Rep] at hS'
          obtain ⟨b, y, l, c, g1, rfl, g2, g3, g4, g5⟩ := hS'
          have e0 : l = ls := by have := hls σ _ hS w; simp [Builtin.lenOf] at this; exact this
          subst e0
          have ec : c = c0 := g4 c0 rfl
          subst ec
          obtain ⟨bl', y', o, k1, k2, k3, C, k4, k5⟩ := hs.blk n _ hb
          rw [g1] at k1; cases k1; subst k4
          obtain ⟨news, n1, n2⟩ := src σ w X hs hX
          have hnl' : news.length = lx * i.size := by rw [n1.length]; exact hnl
          have hLl : ((C.toList.drop off).take (l * i.size)).length = l * i.size := by
            have := k5.length
            simp at hn this ⊢; omega
          have hLr : RepL ν σ ((cs.drop off).take (l * i.size)) ((C.toList.drop off).take (l * i.size)) := (k5.drop off).take _
          have hold : (Builtin.firstCells ti.size l (.slice (some ⟨b, off, none⟩) l c)).run P w.drew = .ok ((C.toList.drop off).take (l * i.size)).toArray w.drew := by
            refine run_firstCells_some w.drew ti.size l _ l c _ (by rw [hLl, hsize]) (fun j V e => ?_)
            rw [Addr.add_eq]
            have h0 : w.drew.heap[b]? = some (.cells C bt (0, 0)) := k3
            rw [cell_of_row h0]
            have hj : j < l * i.size := by have := (List.getElem?_eq_some_iff.1 e).1; omega
            rw [List.getElem?_take, if_pos hj, List.getElem?_drop] at e
            rw [← Array.getElem?_toList]; exact e
          have hr := run_append_grow_src w t tx ty elem ti z ht hti hzero' (some ⟨b, off, none⟩) l c _ hold X lx news n2 (by omega) h63 (cap_fit c (by omega))
          have hg := grownCap_ge w (l + lx) c elem
          refine ⟨_, _, σ.add st.next (w.heap.size, grownCap w (l + lx) c elem), hr, rep_vec hg (Sg.add_self _ _ _), ?_⟩
          have := goes_vec (Cs := (C.toList.drop off).take (l * i.size) ++ news) (Z := (Builtin.zeroCells z.cells (grownCap w (l + lx) c elem - (l + lx))).toList) (cap := grownCap w (l + lx) c elem) hs (Nat.le_refl _) (by omega) h3 (hLr.append n1) (by
            rw [hco]
            exact grow_sizes (n := l + lx) hzs (by rw [List.length_append, hLl, hnl', ← Nat.add_mul]) rfl hg) (grownCap_le_maxLen _ _ _ _ (by unfold maxLen; omega))
          have e : (((C.toList.drop off).take (l * i.size) ++ news).toArray ++ Builtin.zeroCells z.cells (grownCap w (l + lx) c elem - (l + lx))) = (((C.toList.drop off).take (l * i.size) ++ news) ++ (Builtin.zeroCells z.cells (grownCap w (l + lx) c elem - (l + lx))).toList).toArray := by
            apply Array.ext'; simp
          rw [e]; exact this
  · cases h

theorem appendLog_ok (hE : EOk P E ν) {t tx elem : TypeId} (ht : P.underlying t = some (.slice elem)) (hk : (∃ e', P.underlying tx = some (.slice e')) ∨ P.underlying tx = some .string)
    {i : TyI} (hel : getT E.ty elem = some i) {z : Value} (hz : i.zero = some z) (hzs : z.cells.size = i.size) {n a lx : Nat} {x : SV} (hlx : ∀ σ V, Rep ν σ x V → ∀ w, (Builtin.lenOf V).run P w = .ok lx w) (_hlx0 : lx ≠ 0) {st : St} {k : SV → St → R} {out} (h : appendLog E elem i.size i.bytes n a lx x st k = .ok out) :
    ∃ v st', k v st' = .ok out ∧ ∀ (ty : TypeId) σ w S X, Sim P E ν base σ st w → Rep ν σ (.slc n 0 (.atom a) none) S → Rep ν σ x X →
      ∃ V w' σ', (Builtin.append_ #[t, tx] ty #[S, X]).run P w = .ok V w' ∧ Rep ν σ' v V ∧ Goes P E ν base σ st w σ' st' w' := by
  unfold appendLog at h
  split at h
  case h_1 => cases h
  rename_i b' hab
  split at h
  · cases h
  rename_i hfit
  obtain ⟨hf1, hf2⟩ := fits_ok hfit
  have h0 := cellsOfK_ok (P := P) (E := E) (ν := ν) (base := base) h; clear h; obtain ⟨new, h, hnew⟩ := h0
  split at h
  · cases h
  rename_i hnl
  have hnl : new.length = lx * i.size := by rw [← lenL_eq]; exact Nat.eq_of_beq_eq_true hnl
  have h0 := blockK_ok h; clear h; obtain ⟨b0, hb, h⟩ := h0
  cases b0 <;> dsimp only at h <;> try (cases h; done)
  rename_i a0 cs bt
  split at h
  · cases h
  rename_i hbt
  have hbt := Nat.eq_of_beq_eq_true hbt
  subst hbt
  split at h
  · cases h
  rename_i hdiv
  have hdiv : cs.length / i.size * i.size = cs.length := by
    have := Nat.eq_of_beq_eq_true hdiv
    rwa [lenL_eq] at this
  split at h
  case h_1 => cases h
  rename_i a' ha'
  split at h
  · cases h
  rename_i haa
  have haa := Nat.eq_of_beq_eq_true haa
  subst haa
  rw [lenL_eq] at ha'
  have h0 := setK_ok h; clear h; obtain ⟨st1, h, s1, s2⟩ := h0
  rw [appLK_eq] at h
  have h0 := newK_ok h; clear h; obtain ⟨st', h1, h2, h3⟩ := h0
  rw [s1] at h1
  obtain ⟨ti, hti, hsize, hbytes, hzero⟩ := (hE.ty bt i hel).2.1
  have hzero' : ti.zero = some z := by rw [hzero]; exact hz
  have hco : P.cellsOf bt = i.size := hE.cellsOf hel
  obtain ⟨q1, q2, q3⟩ := hE.logAdd _ _ _ hab
  obtain ⟨p1, p2, p3⟩ := hE.logAdd _ _ _ ha'
  refine ⟨_, st', h1, fun ty σ w S X hs hS hX => ?_⟩
  simp only [Rep] at hS
  obtain ⟨b, y, l, c, g1, rfl, g2, g3, g4, g5⟩ := hS
  have ec : c = y := g5 trivial trivial
  subst ec
  have g2 : ν a' = (l : Int) := g2
  obtain ⟨bl', y', o, k1, k2, k3, C, L, M, N, k4, k5, k6, k7, k8, k9, k10⟩ := hs.blk n _ hb
  rw [g1] at k1; cases k1; subst k4
  obtain ⟨news, n1, c2, c3, c4⟩ := hnew σ w X hs hX hnl
  rw [← hsize] at c2 c3
  have n2 : Src P ti.size tx X lx news w := ⟨hk, fun w' => hlx σ X hX w', c2, c3, by rw [n1.length, hnl, hsize], c4⟩
  have hle1 : l + lx ≤ 1000000 := by omega
  have hnn : n < st.next := hs.lt g1
  have hheap : ∀ m, getT st'.heap m = if m = st.next then some (.log a0 (cs ++ new) bt) else if m = n then none else getT st.heap m := by
    intro m; rw [h3, s1]; split
    · rfl
    · exact s2 m
  have hLl : L.length + M.length = l * i.size := by
    have e1 : (L.length : Int) = ν a0 * i.size := by rw [k7, hco]
    have e2 : (l : Int) = ν a0 + (cs.length / i.size : Nat) := by rw [← g2, p1]
    have e3 : ((l * i.size : Nat) : Int) = (L.length : Int) + (cs.length : Int) := by
      rw [Int.natCast_mul, e2, Int.add_mul, ← e1, ← Int.natCast_mul, hdiv]
    rw [k6.length]; omega
  have hCs : C.size = L.length + (M.length + N.length) := by rw [← Array.length_toList, k5, List.length_append, List.length_append]
  have hnl' : news.length = lx * i.size := by rw [n1.length]; exact hnl
  have rep : ∀ {τ : Sg} {m bb cc : Nat}, l + lx ≤ cc → τ m = some (bb, cc) → Rep ν τ (.slc m 0 (.atom b') none) (.slice (some ⟨bb, 0, none⟩) (l + lx) cc) := by
    intro τ m bb cc e1 e2
    simp only [Rep]
    refine ⟨bb, cc, l + lx, cc, e2, rfl, ?_, e1, fun d hd => (nomatch hd), fun _ _ => rfl⟩
    show ν b' = _
    rw [q1, g2]; simp
  by_cases hroom : l + lx ≤ c
  · have hfit2 : l * i.size + lx * i.size ≤ C.size := by
      rw [k8, hco, ← Nat.add_mul]; exact Nat.mul_le_mul_right _ hroom
    have hr := run_append_in (P := P) (ty := ty) ht hti (b := b) (off := 0) (sLen := l) (sCap := c) n2 hroom k3 (by rw [hsize]; omega)
    refine ⟨_, _, σ.add st.next (b, c), hr, rep hroom (Sg.add_self _ _ _), ?_⟩
    refine goes_regrow hs hb g1 (by omega) hheap ?_
    have hle : σ.le (σ.add st.next (b, c)) := Sg.le_add _ (hs.fresh _ (Nat.le_refl _))
    refine ⟨_, L, M ++ news, N.drop news.length, rfl, ?_, (k6.append n1).mono hle, k7, ?_, k9, k10⟩
    · rw [k5, hsize, Nat.zero_add, ← hLl, ← List.append_assoc]
      have e : ∀ (A N X : List Value) (m : Nat), m = A.length → ((A ++ N).take m ++ X ++ (A ++ N).drop (m + X.length)) = A ++ (X ++ N.drop X.length) := by
        intro A N X m hm; subst hm; simp [List.drop_append]
      rw [List.toList_toArray, e (L ++ M) N news _ (by simp)]
      simp
    · rw [k5, hsize, Nat.zero_add, ← hLl, ← List.append_assoc]
      have e : ∀ (A N X : List Value) (m : Nat), m = A.length → X.length ≤ N.length → ((A ++ N).take m ++ X ++ (A ++ N).drop (m + X.length)).length = A.length + N.length := by
        intro A N X m hm; subst hm; simp [List.drop_append]; omega
      rw [List.size_toArray, e (L ++ M) N news _ (by simp) (by rw [hLl.symm] at hfit2; omega), ← k8, hCs]
      simp; omega
  · have hold : (Builtin.firstCells ti.size l (.slice (some ⟨b, 0, none⟩) l c)).run P w.drew = .ok (L ++ M).toArray w.drew := by
      refine run_firstCells_some w.drew ti.size l _ l c (L ++ M) (by rw [List.length_append, hLl, hsize]) (fun j V e => ?_)
      rw [Addr.add_eq, Nat.zero_add]
      have : w.drew.heap[b]? = some (.cells C bt (0, 0)) := k3
      rw [cell_of_row this]
      exact getElem_of_app (by rw [k5, ← List.append_assoc]) e
    have h63 : ((l + lx : Nat) : Int) ≤ 9223372036854775807 := by omega
    have cap_fit : Builtin.nextslicecap (l + lx) c * ti.bytes ≤ 281474976710656 := by
      rw [hbytes]
      have h1 := nextslicecap_le (show c < l + lx by omega)
      exact Nat.le_trans (Nat.mul_le_mul_right _ (by omega)) hf1
    have hr := run_append_grow_src w t tx ty bt ti z ht hti hzero' (some ⟨b, 0, none⟩) l c (L ++ M) hold X lx news n2 (by omega) h63 cap_fit
    have hg := grownCap_ge w (l + lx) c bt
    have d1 : Goes P E ν base σ st w σ st1 w := goes_drop hs s1 (fun m b' hm => by
      rw [s2] at hm; split at hm
      · cases hm
      · exact hm)
    refine ⟨_, _, σ.add st.next (w.heap.size, grownCap w (l + lx) c bt), hr, rep hg (Sg.add_self _ _ _), d1.trans ?_⟩
    have d2 := goes_new (d1.2.drawn (w.drawn + 1)) (n := st1.next) (b := .log a0 (cs ++ new) bt) (Nat.le_refl _) (by omega) h3
      (o := .cells ((L ++ M ++ news).toArray ++ Builtin.zeroCells z.cells (grownCap w (l + lx) c bt - (l + lx))) bt (0, 0)) (z := grownCap w (l + lx) c bt)
      ⟨_, L, M ++ news, (Builtin.zeroCells z.cells (grownCap w (l + lx) c bt - (l + lx))).toList, rfl, by simp, (k6.append n1).mono (Sg.le_add _ (d1.2.fresh _ (Nat.le_refl _))), k7, by
        rw [hco]
        have := grow_sizes (n := l + lx) hzs (L := L ++ M ++ news) (by rw [List.length_append, List.length_append, hLl, hnl', ← Nat.add_mul]) rfl hg
        rw [Array.size_append, ← Array.length_toList (xs := Builtin.zeroCells _ _), List.size_toArray]
        exact this, k9, grownCap_le_maxLen _ _ _ _ (by unfold maxLen; omega)⟩
    rw [s1] at d2
    exact (Goes.drawn d1.2 (w.drawn + 1)).trans d2

theorem appendA_ok (hE : EOk P E ν) {t tx elem : TypeId} (ht : P.underlying t = some (.slice elem)) (hk : (∃ e', P.underlying tx = some (.slice e')) ∨ P.underlying tx = some .string)
    {i : TyI} (hel : getT E.ty elem = some i) {z : Value} (hz : i.zero = some z) (hzs : z.cells.size = i.size) {s x : SV} {st : St} {k : SV → St → R} {out} (h : appendA E elem i.size i.bytes s x st k = .ok out) :
    ∃ v st', k v st' = .ok out ∧ ∀ (ty : TypeId) σ w S X, Sim P E ν base σ st w → Rep ν σ s S → Rep ν σ x X →
      ∃ V w' σ', (Builtin.append_ #[t, tx] ty #[S, X]).run P w = .ok V w' ∧ Rep ν σ' v V ∧ Goes P E ν base σ st w σ' st' w' := by
  unfold appendA at h
  split at h
  · split at h
    · split at h
      · split at h
        · have h0 := lenOf_ok (P := P) (ν := ν) h; clear h; obtain ⟨lx, h, hlx⟩ := h0
          split at h
          · cases h
          · rename_i hne
            exact appendLog_ok hE ht hk hel hz hzs hlx (fun e => hne e) h
        · cases h
      · cases h
    · exact appendK_ok hE ht hk hel hz hzs h
  · exact appendK_ok hE ht hk hel hz hzs h
end Go.Ev
namespace Go.Ev
open Go
variable {ν : Nat → Int} {P : Program} {E : Env} {base : Nat} {nt : Nat}

theorem copyK_ok {t elem : TypeId} {ts : Array TypeId} (hts : ts[0]? = some t) {sz : Nat} (ht : P.underlying t = some (.slice elem)) {i : TypeInfo} (hi : P.info? elem = some i) (hsz : i.size = sz) {d s : SV} {st : St} {k : SV → St → R} {out} (h : copyK sz d s st k = .ok out) :
    ∃ v st', k v st' = .ok out ∧ ∀ (ty : TypeId) σ w D S, Sim P E ν base σ st w → Rep ν σ d D → Rep ν σ s S →
      ∃ V w', (Builtin.copy_ ts ty #[D, S]).run P w = .ok V w' ∧ Rep ν σ v V ∧ Goes P E ν base σ st w σ st' w' := by
  unfold copyK at h
  have h0 := lenOf_ok (P := P) (ν := ν) h; clear h; obtain ⟨ld, h, hld⟩ := h0
  have h0 := lenOf_ok (P := P) (ν := ν) h; clear h; obtain ⟨ls, h, hls⟩ := h0
  rw [forceN_eq] at h
  have h0 := cellsOfK_ok (P := P) (E := E) (ν := ν) (base := base) h; clear h; obtain ⟨new, h, hnew⟩ := h0
  split at h
  · cases h
  rename_i hnl
  have hnl : new.length = Nat.min ls ld * sz := by rw [← lenL_eq]; exact Nat.eq_of_beq_eq_true hnl
  split at h
  · refine ⟨_, st, h, fun ty σ w D S hs hD hS => ⟨goInt (Nat.min ls ld), w, ?_, by simp only [Rep]; rfl, .refl hs⟩⟩
    have hD' := hD
    simp only [Rep] at hD'
    obtain ⟨Cs, c1, c2, c3, c4⟩ := hnew σ w S hs hS hnl
    have e0 : ld = 0 := by have := hld σ D hD w; rw [hD'] at this; simp [Builtin.lenOf] at this; exact this.symm
    have := hls σ S hS w
    subst hD'
    subst hsz
    subst e0
    simp [Builtin.copy_, hts, run_underlying ht, this, sizeOf, typeInfo, hi] at c2 ⊢
    simp [c2]
  · rename_i m off l c
    have h0 := storeRowK_ok (P := P) (E := E) (ν := ν) (base := base) h; clear h; obtain ⟨st', h, hst⟩ := h0
    refine ⟨_, st', h, fun ty σ w D S hs hD hS => ?_⟩
    have hD' := hD
    simp only [Rep] at hD'
    obtain ⟨b, y, l', c', g1, rfl, g2, g3⟩ := hD'
    obtain ⟨Cs, c1, c2, c3, c4⟩ := hnew σ w S hs hS hnl
    obtain ⟨b2, off2, w', e1, e2, e3⟩ := hst σ w (.pointer (some ⟨b, off, none⟩)) Cs hs (by simp only [Rep]; exact ⟨b, y, g1, rfl⟩) c1
    cases e1
    refine ⟨goInt (Nat.min ls ld), w', ?_, by simp only [Rep]; rfl, e3⟩
    have e0 : l' = ld := by have := hld σ _ hD w; simp [Builtin.lenOf] at this; exact this
    have := hls σ S hS w
    subst hsz
    subst e0
    simp [Builtin.copy_, hts, run_underlying ht, this, sizeOf, typeInfo, hi] at c2 ⊢
    simp [c2, e2]
  · cases h

theorem clearK_ok {t elem : TypeId} {ts : Array TypeId} (hts : ts[0]? = some t) (ht : P.underlying t = some (.slice elem)) {z : Value} {zs : SV} (hz : ∀ w, (Go.zeroValue elem).run P w = .ok z w) (hr : ∀ σ, Rep ν σ zs z) {x : SV} {st : St} {k : SV → St → R} {out} (h : clearK zs.cells x st k = .ok out) :
    ∃ st', k undefS st' = .ok out ∧ ∀ (ty : TypeId) σ w X, Sim P E ν base σ st w → Rep ν σ x X →
      ∃ w', (Builtin.clear_ ts ty #[X]).run P w = .ok (.tuple #[]) w' ∧ Goes P E ν base σ st w σ st' w' := by
  unfold clearK at h
  split at h
  · refine ⟨st, h, fun ty σ w X hs hX => ⟨w, ?_, .refl hs⟩⟩
    simp only [Rep] at hX; subst hX
    simp [Builtin.clear_, hts, run_underlying ht]
  · refine ⟨st, h, fun ty σ w X hs hX => ⟨w, ?_, .refl hs⟩⟩
    simp only [Rep] at hX; obtain ⟨a, c, rfl⟩ := hX
    simp [Builtin.clear_, hts, run_underlying ht]
  · rename_i m off l c
    have h0 := lenOf_ok (P := P) (ν := ν) h; clear h; obtain ⟨n, h, hn⟩ := h0
    split at h
    · refine ⟨st, h, fun ty σ w X hs hX => ⟨w, ?_, .refl hs⟩⟩
      have hX' := hX
      simp only [Rep] at hX'
      obtain ⟨b, y, l', c', g1, rfl, g2, g3⟩ := hX'
      have e0 : l' = 0 := by have := hn σ _ hX w; simp [Builtin.lenOf] at this; exact this
      subst e0
      simp [Builtin.clear_, hts, run_underlying ht]
    · rename_i hn0
      rw [repZ_eq] at h
      have h0 := storeRowK_ok (P := P) (E := E) (ν := ν) (base := base) h; clear h; obtain ⟨st', h, hst⟩ := h0
      refine ⟨st', h, fun ty σ w X hs hX => ?_⟩
      have hX' := hX
      simp only [Rep] at hX'
      obtain ⟨b, y, l', c', g1, rfl, g2, g3⟩ := hX'
      have e0 : l' = n := by have := hn σ _ hX w; simp [Builtin.lenOf] at this; exact this
      subst e0
      have hzz : (Builtin.zeroCells z.cells l').toList = (List.replicate l' z.cells.toList).flatten := zeros_eq z.cells l' z.cells.size rfl
      obtain ⟨b2, off2, w', e1, e2, e3⟩ := hst σ w (.pointer (some ⟨b, off, none⟩)) (Builtin.zeroCells z.cells l').toList hs (by simp only [Rep]; exact ⟨b, y, g1, rfl⟩) (by
        rw [hzz]; exact (hr σ).cells.flatten l')
      cases e1
      refine ⟨w', ?_, e3⟩
      obtain ⟨q, rfl⟩ : ∃ q, l' = q + 1 := ⟨l' - 1, by have : l' ≠ 0 := fun e => hn0 e; omega⟩
      simp [Builtin.clear_, hts, run_underlying ht, hz, e2]
  · cases h
end Go.Ev
namespace Go.Ev
open Go
variable {ν : Nat → Int} {P : Program} {E : Env} {base : Nat} {nt : Nat}

theorem lenC2_ok (hE : EOk P E ν) {t : TypeId} {ts : Array TypeId} (hts : ts[0]? = some t) {x : SV} {st : St} {k : SV → R} {out} (h : (lenC2 E t).run x st k = .ok out) :
    ∃ v, k v = .ok out ∧ ∀ (ty : TypeId) σ w X, Sim P E ν base σ st w → Rep ν σ x X → ∃ V, (Builtin.len_ ts ty #[X]).run P w = .ok V w ∧ Rep ν σ v V := by
  unfold lenC2 at h
  dsimp only at h
  split at h
  · rename_i key elem size bytes agg zero ht
    have hu := hE.und ht
    dsimp only at h
    split at h
    · rw [forceN_eq] at h
      refine ⟨_, h, fun ty σ w X hs hX => ⟨goInt 0, ?_, by simp only [Rep]; rfl⟩⟩
      simp only [Rep] at hX; subst hX
      simp [Builtin.len_, hts, run_underlying hu]
    · have h0 := mapK_ok h; clear h; obtain ⟨n, es, clock, x0, rfl, hb, h⟩ := h0
      rw [forceN_eq] at h
      refine ⟨_, h, fun ty σ w X hs hX => ?_⟩
      obtain ⟨b, z, Es, d, g1, g2, g3, g0⟩ := map_at hs hb
      simp only [Rep] at hX
      obtain ⟨b', z', e1, rfl⟩ := hX
      rw [g1] at e1; cases e1
      refine ⟨goInt Es.size, ?_, ?_⟩
      · simp [Builtin.len_, hts, run_underlying hu, MapKept.run_getObj_map g2]
      · simp only [Rep]
        have := g3.length
        rw [lenL_eq, ← this]; rfl
  · rename_i elem size bytes agg zero ht
    have hu := hE.und ht
    dsimp only at h
    split at h
    · refine ⟨_, h, fun ty σ w X hs hX => ?_⟩
      simp only [Rep] at hX
      obtain ⟨b, z, l, c, g1, rfl, g2, g3⟩ := hX
      refine ⟨goInt l, ?_, ?_⟩
      · simp [Builtin.len_, hts, run_underlying hu]
      · simp only [Rep]; rw [g2]; rfl
    · refine ⟨_, h, fun ty σ w X hs hX => ?_⟩
      simp only [Rep] at hX
      obtain ⟨l, rfl, g2⟩ := hX
      refine ⟨goInt l, ?_, ?_⟩
      · simp [Builtin.len_, hts, run_underlying hu]
      · simp only [Rep]; rw [g2]; rfl
    · rw [forceN_eq] at h
      refine ⟨_, h, fun ty σ w X hs hX => ⟨goInt 0, ?_, by simp only [Rep]; rfl⟩⟩
      simp only [Rep] at hX; subst hX
      simp [Builtin.len_, hts, run_underlying hu]
    · rw [forceN_eq] at h
      refine ⟨_, h, fun ty σ w X hs hX => ⟨goInt 0, ?_, by simp only [Rep]; rfl⟩⟩
      simp only [Rep] at hX; obtain ⟨a, c, rfl⟩ := hX
      simp [Builtin.len_, hts, run_underlying hu]
    · cases h
  · rename_i size bytes agg zero ht
    have hu := hE.und ht
    dsimp only at h
    split at h
    · rename_i s
      rw [forceN_eq] at h
      refine ⟨_, h, fun ty σ w X hs hX => ⟨goInt s.size, ?_, by simp only [Rep]; rfl⟩⟩
      simp only [Rep] at hX; subst hX
      simp [Builtin.len_, hts, run_underlying hu]
    · cases h
  · rename_i n elem size bytes agg zero ht
    have hu := hE.und ht
    dsimp only at h
    rw [forceN_eq] at h
    refine ⟨_, h, fun ty σ w X hs hX => ⟨goInt n, ?_, by simp only [Rep]; rfl⟩⟩
    simp [Builtin.len_, hts, run_underlying hu]
  · rename_i e size bytes agg zero ht
    have hu := hE.und ht
    split at h
    · rename_i n elem size bytes agg zero he
      have hu2 := hE.und he
      dsimp only at h
      rw [forceN_eq] at h
      refine ⟨_, h, fun ty σ w X hs hX => ⟨goInt n, ?_, by simp only [Rep]; rfl⟩⟩
      simp [Builtin.len_, hts, run_underlying hu, run_underlying hu2]
    · cases h
  · cases h

theorem max2_int (P : Program) (i : IntKind) (a b : Int) (w : World) : (Builtin.max2 (.int i a) (.int i b) : Sem Value).run P w = .ok (.int i (if a < b then b else a)) w := by rfl
theorem min2_int (P : Program) (i : IntKind) (a b : Int) (w : World) : (Builtin.min2 (.int i a) (.int i b) : Sem Value).run P w = .ok (.int i (if b < a then b else a)) w := by rfl
theorem minS_ok (hE : EOk P E ν) {mx : Bool} {i : IntKind} {x y : SInt} {k : SV → R} {out} (h : minS E mx i x y k = .ok out) :
    ∃ v, k v = .ok out ∧ ∀ σ X Y, Rep ν σ (.int i x) X → Rep ν σ (.int i y) Y → ∃ V, (∀ w, ((match mx with | true => Builtin.max2 X Y | false => Builtin.min2 X Y) : Sem Value).run P w = .ok V w) ∧ Rep ν σ v V := by
  unfold minS at h
  split at h
  · rename_i g
    have g := known_lss hE g
    split at h
    all_goals
      refine ⟨_, h, fun σ X Y hX hY => ?_⟩
      simp only [Rep] at hX hY
      subst hX hY
    · exact ⟨_, fun w => max2_int P _ _ _ w, by simp only [Rep]; rw [if_pos g]⟩
    · exact ⟨_, fun w => min2_int P _ _ _ w, by simp only [Rep]; rw [if_neg (by omega)]⟩
  · split at h
    · rename_i g
      have g := known_geq hE g
      split at h
      all_goals
        refine ⟨_, h, fun σ X Y hX hY => ?_⟩
        simp only [Rep] at hX hY
        subst hX hY
      · exact ⟨_, fun w => max2_int P _ _ _ w, by simp only [Rep]; rw [if_neg (by omega)]⟩
      · refine ⟨_, fun w => min2_int P _ _ _ w, ?_⟩
        simp only [Rep]
        by_cases e : y.val ν < x.val ν
        · rw [if_pos e]
        · rw [if_neg e, Int.le_antisymm (by omega) g]
    · refine ⟨_, h, fun σ X Y hX hY => ?_⟩
      simp only [Rep] at hX hY
      subst hX hY
      cases mx
      · exact ⟨_, fun w => min2_int P _ _ _ w, by simp only [Rep]; rfl⟩
      · exact ⟨_, fun w => max2_int P _ _ _ w, by simp only [Rep]; rfl⟩
theorem minK_ok (hE : EOk P E ν) {mx : Bool} {x y : SV} {st : St} {k : SV → St → R} {out} (h : minK E mx x y st k = .ok out) :
    ∃ v, k v st = .ok out ∧ ∀ σ X Y, Rep ν σ x X → Rep ν σ y Y → ∃ V, (∀ w, ((match mx with | true => Builtin.max2 X Y | false => Builtin.min2 X Y) : Sem Value).run P w = .ok V w) ∧ Rep ν σ v V := by
  unfold minK at h
  split at h
  case h_2 => cases h
  split at h
  case h_2 => cases h
  split at h
  case h_2 => cases h
  rename_i hk
  have hk := eqK2_ok hk
  subst hk
  split at h
  case h_2 => exact minS_ok hE h
  split at h
  case h_2 => exact minS_ok hE h
  split at h <;> split at h
  all_goals
    rename_i hl
    rw [ltI_eq] at hl
    refine ⟨_, h, fun σ X Y hX hY => ?_⟩
    simp only [Rep, SInt.val] at hX hY
    subst hX hY
    refine ⟨_, fun w => rfl, ?_⟩
    simp only [Rep, SInt.val]
    first
      | rw [if_pos (by simpa using hl)]
      | rw [if_neg (by simpa using hl)]

theorem RepM.all {σ : Sg} {es : List ME} {Es : List MapEntry} (h : RepM ν σ 0 es Es) (n : Nat) : anyBelow n es = !(Es.all fun e => decide (e.born ≥ n)) := by
  induction h with
  | nil => rfl
  | @cons k v born K V es Es hk hv h ih =>
    simp only [anyBelow, List.all_cons, Nat.add_zero]
    split
    · rename_i g
      have := Nat.le_of_ble_eq_true g
      have h2 : decide (born ≥ n) = false := by simp; omega
      rw [h2]; rfl
    · rename_i g
      have : ¬ (born + 1 ≤ n) := fun e => by rw [Nat.ble_eq_true_of_le e] at g; cases g
      have h2 : decide (born ≥ n) = true := by simp; omega
      rw [h2, ih]; rfl
theorem memN_eq (n : Nat) (l : List Nat) : memN n l = l.contains n := by
  induction l with
  | nil => rfl
  | cons m l ih =>
    simp only [memN]
    split
    · rename_i g
      have := Nat.eq_of_beq_eq_true g
      subst this; simp
    · rename_i g
      have : n ≠ m := fun e => by subst e; simp at g
      rw [ih]; simp [this]
theorem RepM.left {σ : Sg} {es : List ME} {Es : List MapEntry} (h : RepM ν σ 0 es Es) (seen : List Nat) : RepM ν σ 0 (leftE seen es) (Es.filter fun e => !seen.contains e.born) := by
  induction h with
  | nil => exact .nil
  | @cons k v born K V es Es hk hv h ih =>
    simp only [leftE]
    rw [memN_eq]
    split
    · rename_i g
      rw [List.filter_cons, if_neg (by simpa using g)]; exact ih
    · rename_i g
      rw [List.filter_cons, if_pos (by simpa using g)]; exact .cons hk hv ih
theorem stepOk_eq {σ : Sg} {seen : List Nat} {es : List ME} {Es : Array MapEntry} {last : Nat} (h : stepOk seen es last = true) (hM : RepM ν σ 0 es Es.toList) :
    (!seen.toArray.isEmpty && !Es.isEmpty && Es.all (fun e => decide (e.born ≥ last))) = false := by
  unfold stepOk at h
  split at h
  · simp
  · split at h
    · cases Es with | mk L => cases hM; simp
    · rw [hM.all] at h
      have : Es.all (fun e => decide (e.born ≥ last)) = false := by
        rw [← Array.all_toList]; simpa using h
      rw [this]; simp

theorem nextK_ok {it : SV} {st : St} {k : SV → St → R} {out} (h : nextK it st k = .ok out) :
    ∃ v st', k v st' = .ok out ∧ ∀ (ty : TypeId) σ w I, Sim P E ν base σ st w → Rep ν σ it I →
      ∃ V w', (Instr.next I false ty).run P w = .ok V w' ∧ Rep ν σ v V ∧ Goes P E ν base σ st w σ st' w' := by
  unfold nextK at h
  split at h
  case h_2 => cases h
  rename_i r
  have h0 := blockK_ok h; clear h; obtain ⟨b0, hb, h⟩ := h0
  split at h
  · refine ⟨_, st, h, fun ty σ w I hs hI => ?_⟩
    obtain ⟨bl, z, o, k1, k2, k3, mr, rfl, k4, k5⟩ := hs.blk r _ hb
    simp only [Rep] at hI
    obtain ⟨b', z', e1, rfl⟩ := hI
    rw [k1] at e1; cases e1
    have := k4 rfl; subst this
    refine ⟨.tuple #[.bool false], w, ?_, ?_, .refl hs⟩
    · simp [Instr.next, getObj, Sem.run, k3]
    · simp only [Rep]
      exact ⟨_, rfl, RepL.cons (by simp only [Rep]) RepL.nil⟩
  · rename_i m since seen stepped
    have h0 := mapK_ok h; clear h; obtain ⟨n, es, clock, x0, e0, hbm, h⟩ := h0
    cases e0
    split at h
    · cases h
    rename_i hstep
    split at hstep
    case h_2 => cases hstep
    split at h
    · rename_i hl
      refine ⟨_, st, h, fun ty σ w I hs hI => ?_⟩
      obtain ⟨bl, z, o, k1, k2, k3, mr, rfl, k4, k5⟩ := hs.blk r _ hb
      simp only [Rep] at hI
      obtain ⟨b', z', e1, rfl⟩ := hI
      rw [k1] at e1; cases e1
      obtain ⟨b, y, q1, rfl⟩ := k5 m rfl
      obtain ⟨b2, z2, Es, d, g1, g2, g3, g0⟩ := map_at hs hbm
      have := g0 rfl; subst this
      rw [Nat.add_zero] at g2
      rw [q1] at g1; cases g1
      have hleft := g3.left seen
      rw [hl] at hleft
      have hf : Es.filter (fun e => !seen.toArray.contains e.born) = #[] := by
        apply Array.ext'
        cases hq : Es.toList.filter (fun e => !seen.contains e.born) with
        | nil => simpa using hq
        | cons a l => rw [hq] at hleft; cases hleft
      refine ⟨.tuple #[.bool false], w, ?_, ?_, .refl hs⟩
      · simp only [Instr.next, getObj, Sem.run_bind, Sem.run, k3, g2, Result.andThen, stepOk_eq hstep g3, Bool.false_eq_true, if_false, hf]
        simp [choose, Sem.run, Question.forced]
      · simp only [Rep]
        exact ⟨_, rfl, RepL.cons (by simp only [Rep]) RepL.nil⟩
    · rename_i e hl
      cases e with | mk ky v born =>
      dsimp only at h
      split at h
      case h_2 => cases h
      rename_i hborn
      have hborn := Nat.le_of_ble_eq_true hborn
      rw [appLK_eq] at h
      have h0 := setK_goes (P := P) (E := E) (ν := ν) (base := base) h; clear h; obtain ⟨st', h, hgo⟩ := h0
      refine ⟨_, st', h, fun ty σ w I hs hI => ?_⟩
      obtain ⟨bl, z, o, k1, k2, k3, mr, rfl, k4, k5⟩ := hs.blk r _ hb
      simp only [Rep] at hI
      obtain ⟨b', z', e1, rfl⟩ := hI
      rw [k1] at e1; cases e1
      obtain ⟨b, y, q1, rfl⟩ := k5 m rfl
      obtain ⟨b2, z2, Es, d, g1, g2, g3, g0⟩ := map_at hs hbm
      have := g0 rfl; subst this
      rw [Nat.add_zero] at g2
      rw [q1] at g1; cases g1
      have hleft := g3.left seen
      rw [hl] at hleft
      obtain ⟨K, V, r1, r2, hf⟩ : ∃ K V, Rep ν σ ky K ∧ Rep ν σ v V ∧ Es.filter (fun e => !seen.toArray.contains e.born) = #[⟨K, V, born⟩] := by
        generalize hq : Es.toList.filter (fun e => !seen.contains e.born) = L at hleft
        cases hleft with
        | cons hk hv hM =>
          cases hM
          refine ⟨_, _, hk, hv, Array.ext' (by simpa using hq)⟩
      refine ⟨.tuple #[.bool true, K, V], _, ?_, ?_, hgo σ w _ (.mapIter (some b) since (seen ++ [born]).toArray clock) bl z hs hb k1 (fun c e => ?_)⟩
      · have e1 : (#[(⟨K, V, born⟩ : MapEntry)]).filter (fun x => decide (x.born < since)) = #[⟨K, V, born⟩] := by simp; omega
        have e2 : (#[(⟨K, V, born⟩ : MapEntry)]).filter (fun x => decide (x.born ≥ since)) = #[] := by simp; omega
        simp only [Instr.next, getObj, Sem.run_bind, Sem.run, k3, g2, Result.andThen, stepOk_eq hstep g3, Bool.false_eq_true, if_false, hf, e1, e2]
        simp [choose, Sem.run, Question.forced, setObj, k3]
      · simp only [Rep]
        exact ⟨_, rfl, RepL.cons (by simp only [Rep]) (RepL.cons r1 (RepL.cons r2 RepL.nil))⟩
      · cases e
        exact ⟨some b, rfl, (fun e => nomatch e), (fun n e => by cases e; exact ⟨b, y, q1, rfl⟩)⟩
    · cases h
  · cases h
end Go.Ev
namespace Go.Ev
open Go
variable {ν : Nat → Int} {P : Program} {E : Env} {base : Nat} {nt : Nat}

/-- an operation that is no call of a function: what it comes to -/
def XRun (P : Program) (E : Env) (ν : Nat → Int) (base nt : Nat) (op : Op) (a : A) (st : St) (v : SV) (st' : St) : Prop :=
  ∀ σ w act (o : Oper), o.op = op → Sim P E ν base σ st w → RepA ν σ nt a act →
    ∃ V w' σ', ((execOp act.eval o).run P w = .ok (.value V) w' ∨ ((execOp act.eval o).run P w = .ok .skip w' ∧ V = undef)) ∧ Rep ν σ' v V ∧ Goes P E ν base σ st w σ' st' w'

theorem XRun.of_pure {op : Op} {a : A} {st : St} {v : SV}
    (h : ∀ σ w act (o : Oper), o.op = op → Sim P E ν base σ st w → RepA ν σ nt a act → ∃ V, (execOp act.eval o).run P w = .ok (.value V) w ∧ Rep ν σ v V) : XRun P E ν base nt op a st v st :=
  fun σ w act o ho hs ha => let ⟨V, h1, h2⟩ := h σ w act o ho hs ha; ⟨V, w, σ, .inl h1, h2, .refl hs⟩

theorem undef_rep (σ : Sg) : Rep ν σ undefS undef := by
  simp only [undefS, Rep]; exact ⟨#[], rfl, RepL.nil⟩

theorem new_run (hE : EOk P E ν) {op : Op} {a : A} {st : St} {k : SV → St → R} {out} (h : ((newC E nt op).run a fun b f => newK st b fun n st => k (f n) st) = .ok out) :
    ∃ v st', k v st' = .ok out ∧ XRun P E ν base nt op a st v st' := by
  have h0 := newC_ok hE h; clear h; obtain ⟨b, f, h, h1⟩ := h0
  have h0 := newK_goes (P := P) (E := E) (ν := ν) (base := base) h; clear h; obtain ⟨st', h, h2⟩ := h0
  refine ⟨_, st', h, fun σ w act o ho hs ha => ?_⟩
  obtain ⟨obj, z, V, r1, r2, r3⟩ := h1 σ act w o ho ha
  exact ⟨V, _, _, .inl r1, r3 _ _ (Sg.add_self _ _ _), h2 σ w obj z hs (r2 _ (Sg.le_add _ (hs.fresh _ (Nat.le_refl _))))⟩

/-- no call of a function -/
def still (op : Op) : Prop := ∀ c, op = .call c → ∃ b, c.callee = .builtin b

theorem sizeC_xf {t : TypeId} {s : String} {G : Nat → XF} {self : Self} {a : A} {st : St} {k : SV → St → R} {out} (h : (sizeC E t (badX s) G).run self a st k = .ok out) :
    ∃ i, getT E.ty t = some i ∧ (G i.size).run self a st k = .ok out := by
  rcases sizeC_ok (E := E) t (badX s) G with g | ⟨i, hi, g⟩
  · rw [g] at h; cases h
  · rw [g] at h; exact ⟨i, hi, h⟩
theorem fieldC_xf (hE : EOk P E ν) {s : TypeId} {f : Nat} {e : String} {G : Nat → TypeId → XF} {self : Self} {a : A} {st : St} {k : SV → St → R} {out} (h : (fieldC E s f (badX e) G).run self a st k = .ok out) :
    ∃ fs fd, P.underlying s = some (.struct fs) ∧ fs[f]? = some fd ∧ (G fd.offset fd.type).run self a st k = .ok out := by
  rcases fieldC_ok hE s f (badX e) G with g | ⟨fs, fd, h1, h2, g⟩
  · rw [g] at h; cases h
  · rw [g] at h; exact ⟨fs, fd, h1, h2, h⟩

theorem opt_rep {σ : Sg} {o : Option Operand} {v : Option SV} {act : Act} (h : (v = none ∧ o = none) ∨ ∃ s x, v = some s ∧ o = some x ∧ Rep ν σ s (act.eval x)) : OptRep ν σ v (o.map act.eval) := by
  rcases h with ⟨rfl, rfl⟩ | ⟨s, x, rfl, rfl, h⟩
  · exact .inl ⟨rfl, rfl⟩
  · exact .inr ⟨s, _, rfl, rfl, h⟩
end Go.Ev
namespace Go.Ev
open Go
variable {ν : Nat → Int} {P : Program} {E : Env} {base : Nat} {nt : Nat}

theorem sliceElem_ok {hE : EOk P E ν} {ts : List TypeId} {s : String} {G : TypeId → B3F} {args : List SV} {st : St} {k : SV → St → R} {out} (h : (sliceElem E ts (badB s) G).run args st k = .ok out) :
    ∃ t l elem, ts = t :: l ∧ P.underlying t = some (.slice elem) ∧ (G elem).run args st k = .ok out := by
  unfold sliceElem at h
  split at h
  · rename_i t l
    split at h
    · rename_i elem size bytes agg zero ht
      exact ⟨t, l, elem, rfl, hE.und ht, h⟩
    · cases h
  · cases h
theorem appArg_ok {hE : EOk P E ν} {ts : List TypeId} (h : appArg E ts = true) :
    ∃ t u, ts = [t, u] ∧ ((∃ e', P.underlying u = some (.slice e')) ∨ P.underlying u = some .string) := by
  unfold appArg at h
  split at h
  · rename_i t u
    split at h
    · rename_i x size bytes agg zero hu
      have := hE.und hu
      split at h
      · exact ⟨t, u, rfl, .inl ⟨_, this⟩⟩
      · exact ⟨t, u, rfl, .inr this⟩
      · cases h
    · cases h
  · cases h

/-- a builtin -/
def BRun (P : Program) (E : Env) (ν : Nat → Int) (base : Nat) (b : Builtin) (ts : Array TypeId) (args : List SV) (st : St) (v : SV) (st' : St) : Prop :=
  ∀ σ w Args ty consts, Sim P E ν base σ st w → RepL ν σ args Args.toList →
    ∃ V w' σ', (builtin b ts ty consts Args).run P w = .ok (.value V) w' ∧ Rep ν σ' v V ∧ Goes P E ν base σ st w σ' st' w'

theorem two {σ : Sg} {x y : SV} {Args : Array Value} (h : RepL ν σ [x, y] Args.toList) : ∃ X Y, Args = #[X, Y] ∧ Rep ν σ x X ∧ Rep ν σ y Y := by
  simp only [RepL] at h
  obtain ⟨X, _, h1, h2, Y, _, rfl, h3, rfl⟩ := h
  exact ⟨X, Y, Array.ext' h1, h2, h3⟩
theorem one {σ : Sg} {x : SV} {Args : Array Value} (h : RepL ν σ [x] Args.toList) : ∃ X, Args = #[X] ∧ Rep ν σ x X := by
  simp only [RepL] at h
  obtain ⟨X, _, h1, h2, rfl⟩ := h
  exact ⟨X, Array.ext' h1, h2⟩
theorem arr {α : Type} {ts : Array α} {l : List α} (h : ts.toList = l) : ts = l.toArray := by rw [← h]

theorem typeC_b3 {elem : TypeId} {s : String} {G : TyI → B3F} {args : List SV} {st : St} {k : SV → St → R} {out} (h : (typeC E elem (badB s) G).run args st k = .ok out) :
    ∃ i, getT E.ty elem = some i ∧ (G i).run args st k = .ok out := by
  unfold typeC at h
  split at h
  · rename_i i hi; exact ⟨_, hi, h⟩
  · cases h
theorem zeroC_b3 (hE : EOk P E ν) {t : TypeId} {s : String} {G : SV → B3F} {args : List SV} {st : St} {k : SV → St → R} {out} (h : (zeroC E t (badB s) G).run args st k = .ok out) :
    ∃ s z i, getT E.ty t = some i ∧ i.zero = some z ∧ (∀ w, (Go.zeroValue t).run P w = .ok z w) ∧ (∀ σ, Rep ν σ s z) ∧ (G s).run args st k = .ok out := by
  rcases zeroC_ok hE t (badB s) G with g | ⟨s, z, i, g, hi, hz, hzr, hrep⟩
  · rw [g] at h; cases h
  · rw [g] at h; exact ⟨s, z, i, hi, hz, hzr, hrep, h⟩
theorem sizeC_b3 {t : TypeId} {s : String} {G : Nat → B3F} {args : List SV} {st : St} {k : SV → St → R} {out} (h : (sizeC E t (badB s) G).run args st k = .ok out) :
    ∃ i, getT E.ty t = some i ∧ (G i.size).run args st k = .ok out := by
  rcases sizeC_ok (E := E) t (badB s) G with g | ⟨i, hi, g⟩
  · rw [g] at h; cases h
  · rw [g] at h; exact ⟨i, hi, h⟩
theorem mapC_b3 (hE : EOk P E ν) {t : TypeId} {s : String} {G : TypeId → B3F} {args : List SV} {st : St} {k : SV → St → R} {out} (h : (mapC E t (badB s) G).run args st k = .ok out) :
    ∃ kt elem kk, P.underlying t = some (.map kt elem) ∧ P.underlying kt = some (.int kk) ∧ (G elem).run args st k = .ok out := by
  rcases mapC_ok hE t (badB s) G with g | ⟨kt, elem, kk, h1, h2, g⟩
  · rw [g] at h; cases h
  · rw [g] at h; exact ⟨kt, elem, kk, h1, h2, h⟩

theorem builtinC_ok (hE : EOk P E ν) {b : Builtin} {ts : Array TypeId} {args : List SV} {st : St} {k : SV → St → R} {out} (h : (builtinC E b ts.toList).run args st k = .ok out) :
    ∃ v st', k v st' = .ok out ∧ BRun P E ν base b ts args st v st' := by
  cases b <;> dsimp only [builtinC] at h <;> try (cases h; done)
  case append =>
    split at h
    · cases h
    rename_i harg
    obtain ⟨t, u, hts, hk⟩ := appArg_ok (hE := hE) harg
    have h0 := sliceElem_ok (hE := hE) h; clear h; obtain ⟨t', l, elem, e1, ht, h⟩ := h0
    rw [hts] at e1; cases e1
    have h0 := typeC_b3 h; clear h; obtain ⟨i, hi, h⟩ := h0
    cases i with | mk ui si bi ai zi =>
    dsimp only at h
    rw [forceN_eq, forceN_eq] at h
    have h0 := zeroC_b3 hE h; clear h; obtain ⟨zs, z, i', hi', hz, hzr, hrep, h⟩ := h0
    rw [hi] at hi'; cases hi'
    split at h
    · cases h
    rename_i hzl
    dsimp only at h
    split at h
    case h_2 => cases h
    rename_i s x
    have hzs : z.cells.size = si := by
      have h1 := (hrep (fun _ => none)).cells.length
      have h2 : lenL zs.cells = si := Nat.eq_of_beq_eq_true hzl
      rw [lenL_eq] at h2
      rw [← Array.length_toList, h1, h2]
    obtain ⟨v, st', h, h1⟩ := appendA_ok (base := base) hE ht hk hi hz hzs h
    refine ⟨v, st', h, fun σ w Args ty consts hs hA => ?_⟩
    obtain ⟨S, X, rfl, hS, hX⟩ := two hA
    obtain ⟨V, w', σ', r1, r2, r3⟩ := h1 ty σ w S X hs hS hX
    rw [arr hts]
    exact ⟨V, w', σ', by simp [builtin, r1], r2, r3⟩
  case cap =>
    have h0 := sliceElem_ok (hE := hE) h; clear h; obtain ⟨t, l, elem, hts, ht, h⟩ := h0
    dsimp only at h
    split at h
    · rename_i n off len c
      refine ⟨_, st, h, fun σ w Args ty consts hs hA => ?_⟩
      obtain ⟨X, rfl, hX⟩ := one hA
      simp only [Rep] at hX
      obtain ⟨b, z, l', c', g1, rfl, g2, g3, g4, g5⟩ := hX
      have := g4 c rfl; subst this
      rw [arr hts]
      exact ⟨goInt c', w, σ, by simp [builtin, Builtin.cap_, run_underlying ht], by simp only [Rep]; rfl, .refl hs⟩
    · refine ⟨_, st, h, fun σ w Args ty consts hs hA => ?_⟩
      obtain ⟨X, rfl, hX⟩ := one hA
      simp only [Rep] at hX; subst hX
      rw [arr hts]
      exact ⟨goInt 0, w, σ, by simp [builtin, Builtin.cap_, run_underlying ht], by simp only [Rep]; rfl, .refl hs⟩
    · cases h
  case clear =>
    have h0 := sliceElem_ok (hE := hE) h; clear h; obtain ⟨t, l, elem, hts, ht, h⟩ := h0
    have h0 := zeroC_b3 hE h; clear h; obtain ⟨zs, z, i', hi', hz, hzr, hrep, h⟩ := h0
    dsimp only at h
    split at h
    case h_2 => cases h
    obtain ⟨st', h, h1⟩ := clearK_ok (P := P) (E := E) (base := base) (ts := ts) (by rw [arr hts]; simp) ht hzr hrep h
    refine ⟨_, st', h, fun σ w Args ty consts hs hA => ?_⟩
    obtain ⟨X, rfl, hX⟩ := one hA
    obtain ⟨w', r1, r2⟩ := h1 ty σ w X hs hX
    exact ⟨undef, w', σ, by simp [builtin, r1, undef], undef_rep σ, r2⟩
  case copy =>
    have h0 := sliceElem_ok (hE := hE) h; clear h; obtain ⟨t, l, elem, hts, ht, h⟩ := h0
    have h0 := sizeC_b3 h; clear h; obtain ⟨i, hi, h⟩ := h0
    dsimp only at h
    split at h
    case h_2 => cases h
    obtain ⟨ti, hti, hsize, _⟩ := (hE.ty elem i hi).2.1
    obtain ⟨v, st', h, h1⟩ := copyK_ok (P := P) (E := E) (ν := ν) (base := base) (ts := ts) (by rw [arr hts]; simp) ht hti hsize h
    refine ⟨_, st', h, fun σ w Args ty consts hs hA => ?_⟩
    obtain ⟨D, S, rfl, hD, hS⟩ := two hA
    obtain ⟨V, w', r1, r2, r3⟩ := h1 ty σ w D S hs hD hS
    exact ⟨V, w', σ, by simp [builtin, r1], r2, r3⟩
  case delete =>
    split at h
    · cases h
    rename_i t l hts
    have h0 := mapC_b3 hE h; clear h; obtain ⟨kt, elem, kk, hu, hk, h⟩ := h0
    dsimp only at h
    split at h
    case h_2 => cases h
    obtain ⟨st', h, h1⟩ := deleteK_ok (P := P) (E := E) (ν := ν) (base := base) (ts := ts) (by rw [arr hts]; simp) hu hk h
    refine ⟨_, st', h, fun σ w Args ty consts hs hA => ?_⟩
    obtain ⟨D, S, rfl, hD, hS⟩ := two hA
    obtain ⟨w', r1, r2⟩ := h1 ty σ w D S hs hD hS
    exact ⟨undef, w', σ, by simp [builtin, r1, undef], undef_rep σ, r2⟩
  case len =>
    split at h
    case h_2 => cases h
    rename_i t l hts
    dsimp only at h
    split at h
    case h_2 => cases h
    obtain ⟨v, h, h1⟩ := lenC2_ok (base := base) hE (ts := ts) (by rw [arr hts]; simp) h
    refine ⟨_, st, h, fun σ w Args ty consts hs hA => ?_⟩
    obtain ⟨X, rfl, hX⟩ := one hA
    obtain ⟨V, r1, r2⟩ := h1 ty σ w X hs hX
    exact ⟨V, w, σ, by simp [builtin, r1], r2, .refl hs⟩
  case max =>
    split at h
    case h_2 => cases h
    obtain ⟨v, h, h1⟩ := minK_ok (P := P) (ν := ν) hE h
    refine ⟨_, st, h, fun σ w Args ty consts hs hA => ?_⟩
    obtain ⟨X, Y, rfl, hX, hY⟩ := two hA
    obtain ⟨V, r1, r2⟩ := h1 σ X Y hX hY
    exact ⟨V, w, σ, by simp [builtin, Builtin.max_, r1], r2, .refl hs⟩
  case min =>
    split at h
    case h_2 => cases h
    obtain ⟨v, h, h1⟩ := minK_ok (P := P) (ν := ν) hE h
    refine ⟨_, st, h, fun σ w Args ty consts hs hA => ?_⟩
    obtain ⟨X, Y, rfl, hX, hY⟩ := two hA
    obtain ⟨V, r1, r2⟩ := h1 σ X Y hX hY
    exact ⟨V, w, σ, by simp [builtin, Builtin.min_, r1], r2, .refl hs⟩
end Go.Ev
namespace Go.Ev
open Go
variable {ν : Nat → Int} {P : Program} {E : Env} {base : Nat} {nt : Nat}

theorem execC_run (hE : EOk P E ν) {op : Op} (hst : still op) {self : Self} {a : A} {st : St} {k : SV → St → R} {out} (h : (execC E nt op).run self a st k = .ok out) :
    ∃ v st', k v st' = .ok out ∧ XRun P E ν base nt op a st v st' := by
  cases op <;> dsimp only [execC] at h <;> try (cases h; done)
  case move x =>
    obtain ⟨v, h, h1⟩ := opC_ok (ν := ν) h
    exact ⟨v, st, h, .of_pure fun σ w act o ho hs ha => ⟨_, by simp [execOp, ho], h1 σ act ha⟩⟩
  case assign x =>
    obtain ⟨v, h, h1⟩ := opC_ok (ν := ν) h
    exact ⟨v, st, h, .of_pure fun σ w act o ho hs ha => ⟨_, by simp [execOp, ho], h1 σ act ha⟩⟩
  case pick c x y =>
    have h0 := opC_ok (ν := ν) h; clear h; obtain ⟨v, h, h1⟩ := h0
    split at h
    · obtain ⟨u, h, h2⟩ := opC_ok (ν := ν) h
      refine ⟨u, st, h, .of_pure fun σ w act o ho hs ha => ⟨_, ?_, h2 σ act ha⟩⟩
      have := h1 σ act ha
      simp only [Rep] at this
      simp [execOp, ho, this, asBool]
    · obtain ⟨u, h, h2⟩ := opC_ok (ν := ν) h
      refine ⟨u, st, h, .of_pure fun σ w act o ho hs ha => ⟨_, ?_, h2 σ act ha⟩⟩
      have := h1 σ act ha
      simp only [Rep] at this
      simp [execOp, ho, this, asBool]
    · cases h
  case alloc t => exact new_run hE h
  case box t x => exact new_run hE h
  case build t parts =>
    obtain ⟨v, h, h1⟩ := buildC_ok hE h
    refine ⟨v, st, h, .of_pure fun σ w act o ho hs ha => ?_⟩
    obtain ⟨V, r1, r2⟩ := h1 σ act w ha
    refine ⟨V, ?_, r2⟩
    have e : parts.map (fun (i, x) => (i, act.eval x)) = (parts.toList.map fun p => (p.1, act.eval p.2)).toArray := by
      apply Array.ext'; simp
    simp [execOp, ho, e, r1]
  case buildSlice t n ps => exact new_run hE h
  case load t x =>
    have h0 := opC_ok (ν := ν) h; clear h; obtain ⟨p, h, h1⟩ := h0
    obtain ⟨v, h, h2⟩ := loadC_ok (base := base) hE h
    refine ⟨v, st, h, .of_pure fun σ w act o ho hs ha => ?_⟩
    obtain ⟨U, r1, _, r2⟩ := h2 σ w _ hs (h1 σ act ha)
    exact ⟨U, by simp [execOp, ho, r1], r2⟩
  case store t x y =>
    have h0 := sizeC_xf h; clear h; obtain ⟨i, hi, h⟩ := h0
    dsimp only at h
    have h0 := opC_ok (ν := ν) h; clear h; obtain ⟨p, h, h1⟩ := h0
    have h0 := opC_ok (ν := ν) h; clear h; obtain ⟨v, h, h2⟩ := h0
    split at h
    case h_2 => cases h
    rename_i hl
    have h0 := storeRowK_ok (P := P) (E := E) (ν := ν) (base := base) h; clear h; obtain ⟨st', h, h3⟩ := h0
    refine ⟨_, st', h, fun σ w act o ho hs ha => ?_⟩
    have hv := h2 σ act ha
    obtain ⟨b, off, w', e1, r1, r2⟩ := h3 σ w _ _ hs (h1 σ act ha) hv.cells
    refine ⟨undef, w', σ, .inr ⟨?_, rfl⟩, undef_rep σ, r2⟩
    obtain ⟨ti, hti, hsz, _⟩ := (hE.ty t i hi).2.1
    have hl : v.cells.length = i.size := by rw [← lenL_eq]; exact Nat.eq_of_beq_eq_true hl
    have hcs : (act.eval y).cells.size = i.size := by rw [← hl, ← hv.cells.length, Array.length_toList]
    simp [execOp, ho, Instr.storeAt, Instr.sureAddr, e1, storeVar, hE.size hi, hcs, r1]
  case nilCheck x =>
    have h0 := opC_ok (ν := ν) h; clear h; obtain ⟨v, h, h1⟩ := h0
    split at h
    · refine ⟨_, st, h, .of_pure fun σ w act o ho hs ha => ⟨_, ?_, h1 σ act ha⟩⟩
      have := h1 σ act ha
      simp only [Rep] at this
      obtain ⟨b, z, _, e⟩ := this
      simp [execOp, ho, e]
    · refine ⟨_, st, h, .of_pure fun σ w act o ho hs ha => ⟨_, ?_, h1 σ act ha⟩⟩
      have := h1 σ act ha
      simp only [Rep] at this
      obtain ⟨F, C, e, _⟩ := this
      simp [execOp, ho, e]
    · refine ⟨_, st, h, .of_pure fun σ w act o ho hs ha => ⟨_, ?_, h1 σ act ha⟩⟩
      have := h1 σ act ha
      simp only [Rep] at this
      obtain ⟨b, z, _, e⟩ := this
      simp [execOp, ho, e]
    · refine ⟨_, st, h, .of_pure fun σ w act o ho hs ha => ⟨_, ?_, h1 σ act ha⟩⟩
      have := h1 σ act ha
      simp only [Rep] at this
      simp [execOp, ho, this]
    · cases h
  case binOp op t x y yt =>
    have h0 := opC_ok (ν := ν) h; clear h; obtain ⟨v, h, h1⟩ := h0
    have h0 := opC_ok (ν := ν) h; clear h; obtain ⟨u, h, h2⟩ := h0
    obtain ⟨r, h, h3⟩ := binC_ok hE h
    refine ⟨_, st, h, .of_pure fun σ w act o ho hs ha => ?_⟩
    obtain ⟨V, r1, r2, r3⟩ := h3 σ _ _ x y w (h1 σ act ha) (h2 σ act ha)
    exact ⟨V, by simp [execOp, ho, r1, r2], r3⟩
  case unOp op t x =>
    have h0 := opC_ok (ν := ν) h; clear h; obtain ⟨v, h, h1⟩ := h0
    obtain ⟨r, h, h3⟩ := unC_ok (P := P) (ν := ν) h
    refine ⟨_, st, h, .of_pure fun σ w act o ho hs ha => ?_⟩
    obtain ⟨V, r1, r2⟩ := h3 σ _ w (h1 σ act ha)
    exact ⟨V, by simp [execOp, ho, r1], r2⟩
  case convert s d x =>
    have h0 := opC_ok (ν := ν) h; clear h; obtain ⟨v, h, h1⟩ := h0
    obtain ⟨r, h, h3⟩ := convC_ok hE h
    refine ⟨_, st, h, .of_pure fun σ w act o ho hs ha => ?_⟩
    obtain ⟨V, r1, r2⟩ := h3 σ _ w (h1 σ act ha)
    exact ⟨V, by simp [execOp, ho, r1], r2⟩
  case makeFunc fn first captured =>
    have h0 := opsC_ok (ν := ν) h; clear h; obtain ⟨fs, h, h1⟩ := h0
    have h0 := opsC_ok (ν := ν) h; clear h; obtain ⟨cs, h, h2⟩ := h0
    refine ⟨_, st, h, .of_pure fun σ w act o ho hs ha => ?_⟩
    refine ⟨.func fn (first.map act.eval) (captured.map act.eval), by simp [execOp, ho, Instr.makeFunc], ?_⟩
    simp only [Rep]
    exact ⟨_, _, rfl, by simpa using h1 σ act ha, by simpa using h2 σ act ha⟩
  case makeMap t r => exact new_run hE h
  case makeSlice t l c => exact new_run hE h
  case slice t x lo hi mx =>
    have h0 := opC_ok (ν := ν) h; clear h; obtain ⟨v, h, h1⟩ := h0
    have h0 := optC_ok (ν := ν) h; clear h; obtain ⟨l, h, h2⟩ := h0
    have h0 := optC_ok (ν := ν) h; clear h; obtain ⟨hh, h, h3⟩ := h0
    have h0 := optC_ok (ν := ν) h; clear h; obtain ⟨m, h, h4⟩ := h0
    obtain ⟨r, h, h5⟩ := sliceC_ok hE h
    refine ⟨_, st, h, .of_pure fun σ w act o ho hs ha => ?_⟩
    obtain ⟨V, r1, r2⟩ := h5 σ _ _ _ _ w (h1 σ act ha) (opt_rep (h2 σ act ha)) (opt_rep (h3 σ act ha)) (opt_rep (h4 σ act ha))
    exact ⟨V, by simp [execOp, ho, r1], r2⟩
  case fieldAddr s x f =>
    have h0 := fieldC_xf hE h; clear h; obtain ⟨fs, fd, hu, hf, h⟩ := h0
    have h0 := sizeC_xf h; clear h; obtain ⟨i, hi, h⟩ := h0
    split at h
    · cases h
    rename_i hne
    have hne : i.size ≠ 0 := fun e => by rw [e] at hne; cases hne
    have h0 := opC_ok (ν := ν) h; clear h; obtain ⟨v, h, h1⟩ := h0
    obtain ⟨q, h, h2⟩ := moveP_ok (ν := ν) h
    refine ⟨_, st, h, .of_pure fun σ w act o ho hs ha => ?_⟩
    obtain ⟨b, off, e, r1⟩ := h2 σ _ (h1 σ act ha)
    refine ⟨_, ?_, r1⟩
    simp [execOp, ho, Instr.fieldAt, run_underlying hu, hf, Instr.sureAddr, e, fieldPlace, hE.size hi, hne, Addr.add_eq]
  case field s x f =>
    have h0 := fieldC_xf hE h; clear h; obtain ⟨fs, fd, hu, hf, h⟩ := h0
    have h0 := opC_ok (ν := ν) h; clear h; obtain ⟨v, h, h1⟩ := h0
    split at h
    case h_2 => cases h
    obtain ⟨r, h, h2⟩ := partC_ok hE h
    refine ⟨_, st, h, .of_pure fun σ w act o ho hs ha => ?_⟩
    have hv := h1 σ act ha
    simp only [Rep] at hv
    obtain ⟨C, e, hC⟩ := hv
    obtain ⟨V, r1, r2⟩ := h2 σ C w hC
    exact ⟨V, by simp [execOp, ho, Instr.field, run_underlying hu, e, hf, asAgg, r1], r2⟩
  case indexAddr t x i =>
    have h0 := opC_ok (ν := ν) h; clear h; obtain ⟨v, h, h1⟩ := h0
    have h0 := opC_ok (ν := ν) h; clear h; obtain ⟨u, h, h2⟩ := h0
    obtain ⟨r, h, h3⟩ := indexAddrC_ok hE h
    refine ⟨_, st, h, .of_pure fun σ w act o ho hs ha => ?_⟩
    obtain ⟨V, r1, r2⟩ := h3 σ _ _ w (h1 σ act ha) (h2 σ act ha)
    exact ⟨V, by simp [execOp, ho, r1], r2⟩
  case index t x i =>
    have h0 := opC_ok (ν := ν) h; clear h; obtain ⟨v, h, h1⟩ := h0
    have h0 := opC_ok (ν := ν) h; clear h; obtain ⟨u, h, h2⟩ := h0
    obtain ⟨r, h, h3⟩ := indexC_ok hE h
    refine ⟨_, st, h, .of_pure fun σ w act o ho hs ha => ?_⟩
    obtain ⟨V, r1, r2⟩ := h3 σ _ _ w (h1 σ act ha) (h2 σ act ha)
    exact ⟨V, by simp [execOp, ho, r1], r2⟩
  case lookup t m i ok =>
    have h0 := opC_ok (ν := ν) h; clear h; obtain ⟨v, h, h1⟩ := h0
    have h0 := opC_ok (ν := ν) h; clear h; obtain ⟨u, h, h2⟩ := h0
    obtain ⟨r, h, h3⟩ := lookupC_ok (base := base) hE h
    refine ⟨_, st, h, .of_pure fun σ w act o ho hs ha => ?_⟩
    obtain ⟨V, r1, r2⟩ := h3 σ w _ _ hs (h1 σ act ha) (h2 σ act ha)
    exact ⟨V, by simp [execOp, ho, r1], r2⟩
  case mapUpdate t m i x =>
    have h0 := mapC_xf hE h; clear h; obtain ⟨kt, elem, kk, hu, hk, h⟩ := h0
    dsimp only at h
    have h0 := opC_ok (ν := ν) h; clear h; obtain ⟨v, h, h1⟩ := h0
    have h0 := opC_ok (ν := ν) h; clear h; obtain ⟨u, h, h2⟩ := h0
    have h0 := opC_ok (ν := ν) h; clear h; obtain ⟨y, h, h3⟩ := h0
    obtain ⟨st', h, h4⟩ := mapUpdateK_ok (P := P) (E := E) (ν := ν) (base := base) hu hk h
    refine ⟨_, st', h, fun σ w act o ho hs ha => ?_⟩
    obtain ⟨w', r1, r2⟩ := h4 σ w _ _ _ hs (h1 σ act ha) (h2 σ act ha) (h3 σ act ha)
    exact ⟨undef, w', σ, .inr ⟨by simp [execOp, ho, r1], rfl⟩, undef_rep σ, r2⟩
  case range t x =>
    have h0 := mapC_xf hE h; clear h; obtain ⟨kt, elem, kk, hu, hk, h⟩ := h0
    dsimp only at h
    have h0 := opC_ok (ν := ν) h; clear h; obtain ⟨v, h, h1⟩ := h0
    split at h
    · obtain ⟨st', h, h2⟩ := newK_goes (P := P) (E := E) (ν := ν) (base := base) h
      refine ⟨_, st', h, fun σ w act o ho hs ha => ?_⟩
      have hv := h1 σ act ha
      simp only [Rep] at hv
      refine ⟨.pointer (some ⟨w.heap.size, 0, none⟩), _, _, .inl ?_, ?_, h2 σ w (.mapIter none 0 #[] 0) 0 hs ⟨none, rfl, (fun _ => rfl), (fun n e => nomatch e)⟩⟩
      · simp [execOp, ho, hv, run_range_nilMap w t kt elem hu]
      · simp only [Rep]; exact ⟨_, _, Sg.add_self _ _ _, rfl⟩
    · have h0 := mapK_ok h; clear h; obtain ⟨m, es, clock, x0, rfl, hb, h⟩ := h0
      split at h
      case h_2 => cases h
      obtain ⟨st', h, h2⟩ := newK_goes (P := P) (E := E) (ν := ν) (base := base) h
      refine ⟨_, st', h, fun σ w act o ho hs ha => ?_⟩
      have hv := h1 σ act ha
      simp only [Rep] at hv
      obtain ⟨b, z, g1, e⟩ := hv
      obtain ⟨b2, z2, Es, d, g2, g3, g4, g0⟩ := map_at hs hb
      have := g0 rfl; subst this
      rw [Nat.add_zero] at g3
      rw [g1] at g2; cases g2
      refine ⟨.pointer (some ⟨w.heap.size, 0, none⟩), _, _, .inl ?_, ?_, h2 σ w (.mapIter (some b) clock #[] clock) 0 hs ⟨some b, rfl, (fun e => nomatch e), (fun n e => by cases e; exact ⟨b, z, Sg.le_add _ (hs.fresh _ (Nat.le_refl _)) _ _ g1, rfl⟩)⟩⟩
      · simp [execOp, ho, e, run_range_map w t kt elem b Es clock hu g3]
      · simp only [Rep]; exact ⟨_, _, Sg.add_self _ _ _, rfl⟩
  case next it isString =>
    split at h
    · cases h
    have h0 := opC_ok (ν := ν) h; clear h; obtain ⟨v, h, h1⟩ := h0
    obtain ⟨r, st', h, h2⟩ := nextK_ok (P := P) (E := E) (ν := ν) (base := base) h
    refine ⟨_, st', h, fun σ w act o ho hs ha => ?_⟩
    obtain ⟨V, w', r1, r2, r3⟩ := h2 o.type σ w _ hs (h1 σ act ha)
    exact ⟨V, w', σ, .inl (by simp [execOp, ho, r1]), r2, r3⟩
  case extract x i =>
    have h0 := opC_ok (ν := ν) h; clear h; obtain ⟨v, h, h1⟩ := h0
    split at h
    case h_2 => cases h
    split at h
    case h_2 => cases h
    rename_i u hu
    rw [getL_eq] at hu
    refine ⟨_, st, h, .of_pure fun σ w act o ho hs ha => ?_⟩
    have hv := h1 σ act ha
    simp only [Rep] at hv
    obtain ⟨C, e, hC⟩ := hv
    obtain ⟨V, r1, r2⟩ := hC.get i u hu
    rw [Array.getElem?_toList] at r1
    exact ⟨V, by simp [execOp, ho, Instr.extract, e, r1], r2⟩
  case call c =>
    obtain ⟨b, hb⟩ := hst c rfl
    rw [hb] at h
    dsimp only at h
    have h0 := opsC_ok (ν := ν) h; clear h; obtain ⟨args, h, h1⟩ := h0
    obtain ⟨v, st', h, h2⟩ := builtinC_ok (base := base) hE h
    refine ⟨_, st', h, fun σ w act o ho hs ha => ?_⟩
    have e : ∃ consts, (execOp act.eval o).run P w = (builtin b c.argTypes o.type consts (c.args.map act.eval)).run P w := by
      refine ⟨?_, ?_⟩
      rotate_left
      · simp only [execOp, ho, resolve, hb, Sem.run_bind, Sem.run_pure, Result.andThen_ok, invoke]
        rfl
    obtain ⟨consts, e⟩ := e
    obtain ⟨V, w', σ', r1, r2, r3⟩ := h2 σ w (c.args.map act.eval) o.type consts hs (by simpa using h1 σ act ha)
    exact ⟨V, w', σ', .inl (e.trans r1), r2, r3⟩
end Go.Ev
