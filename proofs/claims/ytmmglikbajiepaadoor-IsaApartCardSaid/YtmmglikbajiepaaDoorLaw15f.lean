/- Unlike instructions have unlike texts. -/
import Derived.Test.YtmmglikbajiepaaDoorIsaK2
namespace Go.Proofs.YtmmglikbajiepaaDoor
open Go.RowKit Go.Lib

theorem class_opN {op : Int} (h : classM op ≠ 0) : 0 ≤ op ∧ op ≤ 73 := by
  have := class_range op
  omega
theorem str_inj {l m : List UInt8} (h : str l = str m) : l = m := by
  have := congrArg (fun b : ByteArray => b.data.toList) h
  simpa [str] using this
/-! ### What a numeral holds -/
theorem digit_ne (u : Nat) (c : UInt8) (hc : c.toNat < 48 ∨ 57 < c.toNat) : c ∉ decDigits u := by
  induction u using Nat.strongRecOn with
  | ind u ih =>
    rw [decDigits]
    split
    · rename_i h
      rw [List.mem_singleton]
      intro e
      rw [e, UInt8.toNat_ofNat'] at hc
      omega
    · rename_i h
      rw [List.mem_append, List.mem_singleton]
      rintro (e | e)
      · exact ih (u / 10) (by omega) e
      · rw [e, UInt8.toNat_ofNat'] at hc
        omega
theorem itoa_ne (n : Int) (c : UInt8) (hc : c.toNat < 48 ∨ 57 < c.toNat) (h45 : c ≠ 45) : c ∉ itoa n := by
  unfold itoa
  split
  · rw [List.mem_cons]
    rintro (e | e)
    · exact h45 e
    · exact digit_ne _ c hc e
  · exact digit_ne _ c hc
theorem decDigits_ne (u : Nat) : decDigits u ≠ [] := by
  rw [decDigits]; split
  · simp
  · simp
theorem decDigits_inj : ∀ {u v : Nat}, decDigits u = decDigits v → u = v := by
  intro u
  induction u using Nat.strongRecOn with
  | ind u ih =>
    intro v h
    have hb : ∀ x y : Nat, x < 10 → y < 10 → UInt8.ofNat (48 + x) = UInt8.ofNat (48 + y) → x = y := fun x y hx hy e => by
      have := congrArg UInt8.toNat e
      rw [UInt8.toNat_ofNat', UInt8.toNat_ofNat'] at this
      omega
    rw [decDigits, decDigits.eq_def v] at h
    by_cases hu : u < 10
    · rw [dif_pos hu] at h
      by_cases hv : v < 10
      · rw [dif_pos hv, List.cons.injEq] at h
        exact hb u v hu hv h.1
      · rw [dif_neg hv] at h
        have := congrArg List.length h
        rw [List.length_append] at this
        have h3 := List.length_pos_iff.2 (decDigits_ne (v / 10))
        simp at this
        rw [this] at h3; simp at h3
    · rw [dif_neg hu] at h
      by_cases hv : v < 10
      · rw [dif_pos hv] at h
        have := congrArg List.length h
        rw [List.length_append] at this
        have h3 := List.length_pos_iff.2 (decDigits_ne (u / 10))
        simp at this
        rw [this] at h3; simp at h3
      · rw [dif_neg hv] at h
        obtain ⟨h1, h2⟩ := List.append_inj' h rfl
        have e1 := ih (u / 10) (by omega) h1
        rw [List.cons.injEq] at h2
        have e2 := hb _ _ (Nat.mod_lt _ (by decide)) (Nat.mod_lt _ (by decide)) h2.1
        omega
theorem itoa_inj {m n : Int} (h : itoa m = itoa n) : m = n := by
  have hneg : ∀ u v : Nat, 45 :: decDigits u = decDigits v → False := fun u v e => by
    have := digit_ne v 45 (.inl (by decide))
    rw [← e] at this
    exact this List.mem_cons_self
  unfold itoa at h
  split at h
  · split at h
    · rw [List.cons.injEq] at h
      have := decDigits_inj h.2
      omega
    · exact (hneg _ _ h).elim
  · split at h
    · exact (hneg _ _ h.symm).elim
    · have := decDigits_inj h
      omega
/-! ### Texts apart -/
theorem split_sep {c : UInt8} : ∀ {x y r s : List UInt8}, c ∉ x → c ∉ y → x ++ c :: r = y ++ c :: s → x = y ∧ r = s
  | [], [], r, s, _, _, h => ⟨rfl, by simpa using h⟩
  | [], b :: y, r, s, _, hy, h => by
    rw [List.nil_append, List.cons_append, List.cons.injEq] at h
    exact absurd (h.1 ▸ List.mem_cons_self) hy
  | a :: x, [], r, s, hx, _, h => by
    rw [List.nil_append, List.cons_append, List.cons.injEq] at h
    exact absurd (h.1 ▸ List.mem_cons_self) hx
  | a :: x, b :: y, r, s, hx, hy, h => by
    rw [List.cons_append, List.cons_append, List.cons.injEq] at h
    obtain ⟨h1, h2⟩ := split_sep (fun hm => hx (List.mem_cons_of_mem _ hm)) (fun hm => hy (List.mem_cons_of_mem _ hm)) h.2
    exact ⟨by rw [h.1, h1], h2⟩
theorem name_ne32N : ∀ n : Fin 74, (32 : UInt8) ∉ nameB (n.1 : Int) := by decide +kernel
theorem name_neN : ∀ n : Fin 74, classM (n.1 : Int) = 0 ∨ nameB (n.1 : Int) ≠ [] := by decide +kernel
theorem name_apartN : ∀ n m : Fin 74, classM (n.1 : Int) = 0 ∨ classM (m.1 : Int) = 0 ∨ nameB (n.1 : Int) ≠ nameB (m.1 : Int) ∨ n = m ∨ ((shapeB (n.1 : Int)).take 2 = [100, 105] ∧ (shapeB (m.1 : Int)).take 2 = [100, 115]) ∨ ((shapeB (n.1 : Int)).take 2 = [100, 115] ∧ (shapeB (m.1 : Int)).take 2 = [100, 105]) := by decide +kernel
theorem shape_letters {op : Int} (h : classM op ≠ 0) : ∀ c ∈ shapeB op, c = 100 ∨ c = 115 ∨ c = 111 ∨ c = 105 := by
  obtain ⟨h0, h1⟩ := class_opN h
  have h2 := shape_lettersN ⟨op.toNat, by omega⟩
  simp only at h2
  rw [show ((op.toNat : Nat) : Int) = op by omega] at h2
  exact h2
theorem name_ne32 {op : Int} (h : classM op ≠ 0) : (32 : UInt8) ∉ nameB op := by
  obtain ⟨h0, h1⟩ := class_opN h
  have h2 := name_ne32N ⟨op.toNat, by omega⟩
  simp only at h2
  rw [show ((op.toNat : Nat) : Int) = op by omega] at h2
  exact h2
theorem name_ne {op : Int} (h : classM op ≠ 0) : nameB op ≠ [] := by
  obtain ⟨h0, h1⟩ := class_opN h
  have h2 := name_neN ⟨op.toNat, by omega⟩
  simp only at h2
  rw [show ((op.toNat : Nat) : Int) = op by omega] at h2
  exact h2.resolve_left h
theorem name_apart {op oq : Int} (h : classM op ≠ 0) (h' : classM oq ≠ 0) (he : nameB op = nameB oq) : op = oq ∨ ((shapeB op).take 2 = [100, 105] ∧ (shapeB oq).take 2 = [100, 115]) ∨ ((shapeB op).take 2 = [100, 115] ∧ (shapeB oq).take 2 = [100, 105]) := by
  obtain ⟨h0, h1⟩ := class_opN h
  obtain ⟨k0, k1⟩ := class_opN h'
  have h2 := name_apartN ⟨op.toNat, by omega⟩ ⟨oq.toNat, by omega⟩
  simp only [Fin.mk.injEq] at h2
  rw [show ((op.toNat : Nat) : Int) = op by omega, show ((oq.toNat : Nat) : Int) = oq by omega] at h2
  rcases h2 with h2 | h2 | h2 | h2 | h2
  · exact absurd h2 h
  · exact absurd h2 h'
  · exact absurd he h2
  · exact .inl (by omega)
  · exact .inr h2
theorem part_ne44 (i : InsS) (c : UInt8) : (44 : UInt8) ∉ partL i c := by
  have h1 := fun n : Int => itoa_ne n 44 (.inl (by decide)) (by decide)
  unfold partL
  split
  · simp only [List.mem_cons, not_or]; exact ⟨by decide, h1 _⟩
  · split
    · simp only [List.mem_cons, not_or]; exact ⟨by decide, h1 _⟩
    · split <;> exact h1 _
theorem join_inj : ∀ {ps qs : List (List UInt8)}, (∀ p ∈ ps, (44 : UInt8) ∉ p) → (∀ q ∈ qs, (44 : UInt8) ∉ q) → ∀ {p q : List UInt8}, (44 : UInt8) ∉ p → (44 : UInt8) ∉ q → p ++ joinTail [44, 32] ps = q ++ joinTail [44, 32] qs → p = q ∧ ps = qs
  | [], [], _, _, p, q, _, _, h => ⟨by simpa [joinTail] using h, rfl⟩
  | [], b :: qs, _, _, p, q, hp, _, h => by
    exfalso
    apply hp
    have : p = q ++ joinTail [44, 32] (b :: qs) := by simpa [joinTail] using h
    rw [this]
    simp [joinTail]
  | a :: ps, [], _, _, p, q, _, hq, h => by
    exfalso
    apply hq
    have : q = p ++ joinTail [44, 32] (a :: ps) := by simpa [joinTail] using h.symm
    rw [this]
    simp [joinTail]
  | a :: ps, b :: qs, h1, h2, p, q, hp, hq, h => by
    have e : ∀ (x : List UInt8) (r : List (List UInt8)), joinTail [44, 32] (x :: r) = 44 :: (32 :: (x ++ joinTail [44, 32] r)) := fun x r => by simp [joinTail]
    rw [e, e] at h
    obtain ⟨h3, h4⟩ := split_sep hp hq h
    rw [List.cons.injEq] at h4
    obtain ⟨h5, h6⟩ := join_inj (fun x hx => h1 x (List.mem_cons_of_mem _ hx)) (fun x hx => h2 x (List.mem_cons_of_mem _ hx)) (h1 a List.mem_cons_self) (h2 b List.mem_cons_self) h4.2
    exact ⟨h3, by rw [h5, h6]⟩
/-- One text: one name, and the same parts. -/
theorem text_parts {x y : InsS} (hx : classM x.op ≠ 0) (hy : classM y.op ≠ 0) (h : textB x = textB y) : nameB x.op = nameB y.op ∧ (shapeB x.op).map (partL x) = (shapeB y.op).map (partL y) := by
  have nx := name_ne32 hx
  have ny := name_ne32 hy
  unfold textB at h
  cases hsx : shapeB x.op with
  | nil =>
    cases hsy : shapeB y.op with
    | nil => rw [hsx, hsy, tailB, tailB, List.append_nil, List.append_nil] at h; exact ⟨h, rfl⟩
    | cons c l =>
      exfalso
      rw [hsx, hsy, tailB_cons, tailB, List.append_nil] at h
      apply nx
      rw [h]
      simp
  | cons c l =>
    cases hsy : shapeB y.op with
    | nil =>
      exfalso
      rw [hsx, hsy, tailB_cons, tailB, List.append_nil] at h
      apply ny
      rw [← h]
      simp
    | cons d m =>
      rw [hsx, hsy, tailB_cons, tailB_cons] at h
      obtain ⟨h1, h2⟩ := split_sep nx ny h
      refine ⟨h1, ?_⟩
      rw [List.map_cons, List.map_cons, join_cons, join_cons] at h2
      obtain ⟨h3, h4⟩ := join_inj (fun p hp => by obtain ⟨e, _, rfl⟩ := List.mem_map.1 hp; exact part_ne44 x e) (fun p hp => by obtain ⟨e, _, rfl⟩ := List.mem_map.1 hp; exact part_ne44 y e) (part_ne44 x c) (part_ne44 y d) h2
      rw [List.map_cons, List.map_cons, h3, h4]
theorem part_r (x y : InsS) : partL x 105 ≠ partL y 115 := by
  intro h
  have h1 : (114 : UInt8) ∉ itoa x.imm := itoa_ne _ 114 (.inr (by decide)) (by decide)
  apply h1
  have e1 : partL x 105 = itoa x.imm := rfl
  have e2 : partL y 115 = 114 :: itoa y.src := rfl
  rw [e1, e2] at h
  rw [h]
  exact List.mem_cons_self
theorem map_take2 {x y : InsS} {s t : List UInt8} (h : s.map (partL x) = t.map (partL y)) {a b c d : UInt8} (hs : s.take 2 = [a, b]) (ht : t.take 2 = [c, d]) : partL x b = partL y d := by
  have h2 := congrArg (List.take 2) h
  rw [← List.map_take, ← List.map_take, hs, ht] at h2
  simp only [List.map_cons, List.map_nil, List.cons.injEq, and_true] at h2
  exact h2.2
theorem map_same {x y : InsS} {s : List UInt8} (h : s.map (partL x) = s.map (partL y)) {c : UInt8} (hc : s.contains c = true) : partL x c = partL y c := by
  rw [List.contains_iff_mem] at hc
  exact (List.map_inj_left.1 h) c hc
theorem text_inj {x y : InsS} (hx : errM x = 0) (hy : errM y = 0) (h : textB x = textB y) : x = y := by
  have cx := (errM_right hx).1
  have cy := (errM_right hy).1
  obtain ⟨hn, hp⟩ := text_parts cx cy h
  rcases name_apart cx cy hn with ho | ⟨h1, h2⟩ | ⟨h1, h2⟩
  · have fx : formM x = false := by
      have := errM_form cx
      rw [hx] at this
      split at this
      · simp at this
      · split at this
        · simp at this
        · rename_i h; simpa using h
    have fy : formM y = false := by
      have := errM_form cy
      rw [hy] at this
      split at this
      · simp at this
      · split at this
        · simp at this
        · rename_i h; simpa using h
    obtain ⟨op, dst, src, off, imm⟩ := x
    obtain ⟨op', dst', src', off', imm'⟩ := y
    simp only at ho
    subst ho
    simp only [formM, Bool.or_eq_false_iff, Bool.and_eq_false_iff, bne_eq_false_iff_eq, Bool.not_eq_false'] at fx fy
    obtain ⟨⟨⟨x1, x2⟩, x3⟩, x4⟩ := fx
    obtain ⟨⟨⟨y1, y2⟩, y3⟩, y4⟩ := fy
    simp only at hp x1 x2 x3 x4 y1 y2 y3 y4
    have e1 : dst = dst' := by
      by_cases hc : (shapeB op).contains 100 = true
      · have := map_same hp hc
        exact itoa_inj (List.cons.inj (show (114 : UInt8) :: itoa dst = 114 :: itoa dst' from this)).2
      · rw [x1.resolve_right hc, y1.resolve_right hc]
    have e2 : src = src' := by
      by_cases hc : (shapeB op).contains 115 = true
      · have := map_same hp hc
        exact itoa_inj (List.cons.inj (show (114 : UInt8) :: itoa src = 114 :: itoa src' from this)).2
      · rw [x2.resolve_right hc, y2.resolve_right hc]
    have e3 : off = off' := by
      by_cases hc : (shapeB op).contains 111 = true
      · have := map_same hp hc
        exact itoa_inj (show itoa off = itoa off' from this)
      · rw [x3.resolve_right hc, y3.resolve_right hc]
    have e4 : imm = imm' := by
      by_cases hc : (shapeB op).contains 105 = true
      · have := map_same hp hc
        exact itoa_inj (show itoa imm = itoa imm' from this)
      · rw [x4.resolve_right hc, y4.resolve_right hc]
    rw [e1, e2, e3, e4]
  · exact absurd (map_take2 hp h1 h2) (part_r x y)
  · exact absurd (map_take2 hp h1 h2).symm (part_r y x)
theorem text_ne {x : InsS} (hx : errM x = 0) : textB x ≠ [] := by
  intro h
  unfold textB at h
  exact name_ne (errM_right hx).1 (List.append_eq_nil_iff.1 h).1
end Go.Proofs.YtmmglikbajiepaaDoor
