/- GraceHolds in plain mathematics: pictures, tickets, who is told. -/
import Derived.Test.YtefippjakkgjkaaDoorHoldM
namespace Go.Proofs.YtefippjakkgjkaaDoor
open Go.RowKit

/-- A picture of who is in which section is laid. -/
def rowF (pf : Nat → Int) (i : Nat) (S : SSt) : Nat → Int := fun j => if 64 * i ≤ j ∧ j < 64 * i + 64 then (S.sin (j - 64 * i) : Int) else pf j
def updM (f : Nat → Nat) (k v : Nat) : Nat → Nat := fun j => if j = k then v else f j
/-- Who is told. -/
def toldT (O : List Int) (t : Nat → Int) : Nat → Int := fun j => if (j : Int) ∈ O then 2 else t j
theorem told_nil (t : Nat → Int) : toldT [] t = t := by funext j; simp [toldT]
theorem told_step {O : List Int} {t : Nat → Int} {k a : Nat} (ha : O[k]? = some (a : Int)) : upd (toldT (O.take k) t) a 2 = toldT (O.take (k + 1)) t := by
  obtain ⟨h1, h2⟩ := List.getElem?_eq_some_iff.1 ha
  funext j
  unfold upd toldT
  rw [List.take_succ_eq_append_getElem h1, h2]
  by_cases e : j = a
  · subst e; simp
  · rw [if_neg e]
    have : (j : Int) ∈ O.take k ++ [(a : Int)] ↔ (j : Int) ∈ O.take k := by
      rw [List.mem_append]
      constructor
      · rintro (h | h)
        · exact h
        · simp at h; omega
      · exact .inl
    by_cases e2 : (j : Int) ∈ O.take k
    · rw [if_pos e2, if_pos (this.2 e2)]
    · rw [if_neg e2, if_neg (fun h => e2 (this.1 h))]
theorem told_fresh {O : List Int} (hn : O.Nodup) {t : Nat → Int} {k a : Nat} (ha : O[k]? = some (a : Int)) : toldT (O.take k) t a = t a := by
  obtain ⟨h1, h2⟩ := List.getElem?_eq_some_iff.1 ha
  unfold toldT
  rw [if_neg]
  intro hm
  obtain ⟨i, hi, e⟩ := List.mem_iff_getElem.1 hm
  rw [List.getElem_take] at e
  rw [List.length_take] at hi
  have := (List.getElem_inj (h₀ := by omega) (h₁ := h1) hn).1 (e.trans h2.symm)
  omega
theorem set_perm {R : List (List K.Cl)} {c : Nat} (hc : c < R.length) (q : K.Cl) : (R.set c (R.getD c [] ++ [q])).flatten.Perm (q :: R.flatten) := by
  have e : R.getD c [] = R[c] := by simp [List.getD, hc]
  rw [e, List.set_eq_take_append_cons_drop, if_pos hc]
  conv => rhs; rw [← List.take_append_drop c R, List.drop_eq_getElem_cons hc]
  simp only [List.flatten_append, List.flatten_cons, List.append_assoc]
  refine List.Perm.trans (List.Perm.append_left _ ?_) List.perm_middle
  exact List.perm_middle
theorem closeL_fst (g : Int) (R : List (List K.Cl)) : (K.closeL g R).flatten.map (·.1) = R.flatten.map (·.1) := by
  unfold K.closeL
  induction R with
  | nil => rfl
  | cons xs R ih =>
    rw [List.map_cons, List.flatten_cons, List.map_append, ih, List.flatten_cons, List.map_append, List.map_map]
    congr 1
    refine List.map_congr_left fun c _ => ?_
    simp only [Function.comp, K.clo]
    split <;> rfl
structure HOk (i : Nat) (G : GSt) (d : Nat) (pf t tk : Nat → Int) (mk : Nat → Nat) : Prop where
  ok : GOk i G d
  lens : ∀ c, c < 4 → 4 * (G.R.getD c []).length + c ≤ i + 3
  pic : ∀ k r, r < 64 → pf (64 * k + r) ≤ mk k
  mks : ∀ k, mk k ≤ G.S.st
  tz : ∀ k, i ≤ k → tk k = 0
  tks : ∀ k, 0 < tk k → tk k ≤ G.began + 1 ∧ (tk k ≤ G.done → mk k ≤ d) ∧ ∀ y, G.sc = some y → tk k ≤ G.began → mk k ≤ y.2.began
  ids : ∀ c ∈ G.R.flatten, ∃ k : Nat, k < i ∧ c.1 = k ∧ t k = 1 ∧ (c.2 ≠ 0 → ∀ y, G.sc = some y → mk k ≤ y.2.began)
  nodup : (G.R.flatten.map (·.1)).Nodup
section
variable {i d : Nat} {G : GSt} {pf t tk : Nat → Int} {mk : Nat → Nat}
theorem HOk.turn (h : HOk i G d pf t tk mk) {T : SSt} (ht : Turn G.S T) (hT : T.Ok) : HOk (i + 1) { G with S := T } d pf t tk mk :=
  ⟨h.ok.turn ht hT, fun c hc => Nat.le_succ_of_le (h.lens c hc), h.pic, fun k => Nat.le_trans (h.mks k) ht.st, fun k hk => h.tz k (by omega), h.tks, fun c hc => by
    obtain ⟨k, h1, h2⟩ := h.ids c hc
    exact ⟨k, by omega, h2⟩, h.nodup⟩
theorem row_pic (h : HOk i G d pf t tk mk) (hok : G.S.Ok) (k r : Nat) (hr : r < 64) : rowF pf i G.S (64 * k + r) ≤ (updM mk i G.S.st k : Nat) := by
  unfold rowF updM
  by_cases e : k = i
  · subst e
    rw [if_pos (by omega), if_pos rfl, Nat.add_sub_cancel_left]
    have := hok.sle r
    omega
  · rw [if_neg (by omega), if_neg e]; exact h.pic k r hr
theorem row_mk (h : HOk i G d pf t tk mk) (k : Nat) : updM mk i G.S.st k ≤ G.S.st := by
  unfold updM; split
  · exact Nat.le_refl _
  · exact h.mks k
theorem row_tks (h : HOk i G d pf t tk mk) (k : Nat) (hk : 0 < tk k) : tk k ≤ G.began + 1 ∧ (tk k ≤ G.done → updM mk i G.S.st k ≤ d) ∧ ∀ y, G.sc = some y → tk k ≤ G.began → updM mk i G.S.st k ≤ y.2.began := by
  have hne : k ≠ i := by rintro rfl; have := h.tz k (Nat.le_refl _); omega
  unfold updM
  rw [if_neg hne]
  exact h.tks k hk
theorem HOk.room (h : HOk i G d pf t tk mk) (hi : i < 80) (c : Nat) (hc : c < 4) : (G.R.getD c []).length < 64 := by
  have := h.lens c hc; omega
theorem HOk.call (h : HOk i G d pf t tk mk) (hi : i < 80) : HOk (i + 1) { G with R := G.R.set (i % 4) (K.addR (G.R.getD (i % 4) []) [(i : Int)]) } d (rowF pf i G.S) (upd t i 1) tk (updM mk i G.S.st) := by
  have hc : i % 4 < 4 := Nat.mod_lt _ (by decide)
  have hr := h.room hi (i % 4) hc
  have hlen := h.ok.len
  rw [addR_one _ _ hr]
  have hp := set_perm (R := G.R) (c := i % 4) (by omega) ((i : Int), 0)
  refine ⟨(h.ok.call (i % 4) hc i).up, fun c h4 => ?_, row_pic h h.ok.sok, row_mk h, fun k hk => h.tz k (by omega), fun k hk => row_tks h k hk, fun c hc2 => ?_, ?_⟩
  · have := h.lens c h4
    show 4 * ((G.R.set (i % 4) (G.R.getD (i % 4) [] ++ [((i : Int), 0)])).getD c []).length + c ≤ i + 1 + 3
    by_cases e : i % 4 = c
    · subst e
      rw [show (G.R.set (i % 4) (G.R.getD (i % 4) [] ++ [((i : Int), 0)])).getD (i % 4) [] = G.R.getD (i % 4) [] ++ [((i : Int), 0)] by
        have : i % 4 < G.R.length := by omega
        simp [List.getD, this]]
      rw [List.length_append]
      simp only [List.length_cons, List.length_nil]
      omega
    · rw [show (G.R.set (i % 4) (G.R.getD (i % 4) [] ++ [((i : Int), 0)])).getD c [] = G.R.getD c [] by simp [List.getD, e]]
      omega
  · rcases List.mem_cons.1 (hp.mem_iff.1 hc2) with rfl | hm
    · exact ⟨i, by omega, rfl, upd_same _ _ _, fun hh => absurd rfl hh⟩
    · obtain ⟨k, h1, h2, h3, h4⟩ := h.ids c hm
      refine ⟨k, by omega, h2, by rw [upd_ne _ _ (by omega)]; exact h3, fun hh y hy => ?_⟩
      unfold updM; rw [if_neg (by omega)]; exact h4 hh y hy
  · refine (hp.map _).nodup_iff.2 ?_
    rw [List.map_cons, List.nodup_cons]
    refine ⟨fun hm => ?_, h.nodup⟩
    obtain ⟨c, hc3, e⟩ := List.mem_map.1 hm
    obtain ⟨k, h1, h2, _⟩ := h.ids c hc3
    rw [h2] at e
    have : (k : Int) = (i : Int) := e
    omega
theorem HOk.ticket (h : HOk i G d pf t tk mk) : HOk (i + 1) { G with want := G.began + 1 } d (rowF pf i G.S) t (upd tk i (G.began + 1)) (updM mk i G.S.st) := by
  have hdn := h.ok.dn
  refine ⟨(h.ok.want _).up, fun c hc => Nat.le_succ_of_le (h.lens c hc), row_pic h h.ok.sok, row_mk h, fun k hk => ?_, fun k hk => ?_, fun c hc => ?_, h.nodup⟩
  · rw [upd_ne _ _ (by omega)]; exact h.tz k (by omega)
  · by_cases e : k = i
    · subst e
      rw [upd_same]
      exact ⟨Int.le_refl _, fun hh => absurd (show G.began + 1 ≤ G.done from hh) (by omega), fun y hy hh => absurd (show G.began + 1 ≤ G.began from hh) (by omega)⟩
    · rw [upd_ne _ _ e] at hk ⊢
      exact row_tks h k hk
  · obtain ⟨k, h1, h2, h3, h4⟩ := h.ids c hc
    refine ⟨k, by omega, h2, h3, fun hh y hy => ?_⟩
    unfold updM; rw [if_neg (by omega)]; exact h4 hh y hy
theorem lf_mem {g : Int} {R : List (List K.Cl)} {c : K.Cl} (h : c ∈ (R.map (K.lfL g)).flatten) : c ∈ R.flatten := by
  obtain ⟨l, hl, hc⟩ := List.mem_flatten.1 h
  obtain ⟨xs, hx, rfl⟩ := List.mem_map.1 hl
  exact List.mem_flatten.2 ⟨xs, hx, (lfL_sub g xs).subset hc⟩
theorem tell_mem {g : Int} {R : List (List K.Cl)} {j : Int} (h : j ∈ K.tellL g R) : ∃ c ∈ R.flatten, c.1 = j ∧ c.2 ≠ 0 := by
  obtain ⟨l, hl, hc⟩ := List.mem_flatten.1 h
  obtain ⟨xs, hx, rfl⟩ := List.mem_map.1 hl
  obtain ⟨c, hc', rfl⟩ := List.mem_map.1 hc
  replace hc := hc'
  clear hc'
  unfold K.dnL at hc
  refine ⟨c, List.mem_flatten.2 ⟨xs, hx, (List.takeWhile_sublist _).subset hc⟩, rfl, ?_⟩
  have := List.all_takeWhile (p := K.dnB g) (l := xs)
  have := List.all_eq_true.1 this c hc
  simp only [K.dnB, Bool.and_eq_true, decide_eq_true_eq] at this
  exact this.1
theorem HOk.look (h : HOk i G d pf t tk mk) : ∃ d', (∀ j ∈ G.lookS.2, ∃ k : Nat, k < i ∧ j = k ∧ t k = 1 ∧ mk k ≤ d') ∧ G.lookS.2.Nodup ∧ G.lookS.1.S = G.S ∧ HOk i G.lookS.1 d' pf (toldT G.lookS.2 t) tk mk := by
  rcases look_cases G with ⟨_, e⟩ | ⟨y, hs, ⟨h0, e⟩ | ⟨_, e⟩⟩
  · rw [e]
    exact ⟨d, fun j hj => (nomatch hj), List.nodup_nil, rfl, by rw [told_nil]; exact h⟩
  · rw [e]
    have hp := tell_perm G.began G.R
    have hn := hp.nodup_iff.2 h.nodup
    rw [List.nodup_append] at hn
    obtain ⟨n1, n2, n3⟩ := hn
    have hO : ∀ j ∈ K.tellL G.began G.R, ∃ k : Nat, k < i ∧ j = k ∧ t k = 1 ∧ mk k ≤ y.2.began := fun j hj => by
      obtain ⟨c, hc, rfl, hc2⟩ := tell_mem hj
      obtain ⟨k, h1, h2, h3, h4⟩ := h.ids c hc
      exact ⟨k, h1, h2, h3, h4 hc2 y hs⟩
    refine ⟨y.2.began, hO, n1, rfl, h.ok.over hs h0, fun c hc => ?_, h.pic, h.mks, h.tz, fun k hk => ?_, fun c hc => ?_, n2⟩
    · have := h.lens c hc
      show 4 * ((G.R.map (K.lfL G.began)).getD c []).length + c ≤ i + 3
      rw [show (G.R.map (K.lfL G.began)).getD c [] = K.lfL G.began (G.R.getD c []) by
        have : c < G.R.length := by rw [h.ok.len]; exact hc
        simp [List.getD, this]]
      have := (lfL_sub G.began (G.R.getD c [])).length_le
      omega
    · obtain ⟨h1, h2, h3⟩ := h.tks k hk
      exact ⟨h1, fun hh => h3 y hs hh, fun y hy => (nomatch hy)⟩
    · obtain ⟨k, h1, h2, h3, h4⟩ := h.ids c (lf_mem hc)
      refine ⟨k, h1, h2, ?_, fun _ y hy => (nomatch hy)⟩
      show toldT (K.tellL G.began G.R) t k = 1
      unfold toldT
      rw [if_neg]
      · exact h3
      · intro hm
        exact n3 _ hm c.1 (List.mem_map.2 ⟨c, hc, rfl⟩) h2.symm
  · rw [e]
    obtain ⟨s1, s2, s3⟩ := h.ok.scan y hs
    refine ⟨d, fun j hj => (nomatch hj), List.nodup_nil, rfl, h.ok.wait hs, h.lens, h.pic, h.mks, h.tz, fun k hk => ?_, fun c hc => ?_, h.nodup⟩
    · obtain ⟨h1, h2, h3⟩ := h.tks k hk
      refine ⟨h1, h2, fun z hz hh => ?_⟩
      obtain rfl := Option.some.inj hz
      show mk k ≤ (poll G.S y.2 16).began
      rw [poll_beg]; exact h3 y hs hh
    · obtain ⟨k, h1, h2, h3, h4⟩ := h.ids c hc
      refine ⟨k, h1, h2, by show toldT [] t k = 1; rw [told_nil]; exact h3, fun hh z hz => ?_⟩
      obtain rfl := Option.some.inj hz
      show mk k ≤ (poll G.S y.2 16).began
      rw [poll_beg]; exact h4 hh y hs
theorem HOk.begS (h : HOk i G d pf t tk mk) (x : Nat) : HOk (i + 1) (G.begS x) d pf t tk mk ∧ (G.begS x).S = G.S := by
  rcases beg_cases G x with ⟨e, _⟩ | ⟨hs, _, e⟩
  · rw [e]
    exact ⟨h.turn (Turn.refl _) h.ok.sok, rfl⟩
  · rw [e]
    refine ⟨⟨h.ok.beg hs x, fun c hc => ?_, h.pic, h.mks, fun k hk => h.tz k (by omega), fun k hk => ?_, fun c hc => ?_, ?_⟩, rfl⟩
    · have := h.lens c hc
      show 4 * ((K.closeL (G.began + 1) G.R).getD c []).length + c ≤ i + 1 + 3
      rw [show (K.closeL (G.began + 1) G.R).getD c [] = (G.R.getD c []).map (K.clo (G.began + 1)) by
        have : c < G.R.length := by rw [h.ok.len]; exact hc
        simp [K.closeL, List.getD, this]]
      rw [List.length_map]; omega
    · obtain ⟨h1, h2, h3⟩ := h.tks k hk
      refine ⟨by show tk k ≤ G.began + 1 + 1; omega, h2, fun y hy hh => ?_⟩
      obtain rfl := Option.some.inj hy
      exact h.mks k
    · have hm : c.1 ∈ (K.closeL (G.began + 1) G.R).flatten.map (·.1) := List.mem_map.2 ⟨c, hc, rfl⟩
      rw [closeL_fst] at hm
      obtain ⟨c0, hc0, e0⟩ := List.mem_map.1 hm
      obtain ⟨k, h1, h2, h3, h4⟩ := h.ids c0 hc0
      refine ⟨k, by omega, e0 ▸ h2, h3, fun hh y hy => ?_⟩
      obtain rfl := Option.some.inj hy
      exact h.mks k
    · show ((K.closeL (G.began + 1) G.R).flatten.map (·.1)).Nodup
      rw [closeL_fst]; exact h.nodup
theorem flat4 : ∀ {R : List (List K.Cl)}, R.length = 4 → R.flatten.length = (R.getD 0 []).length + (R.getD 1 []).length + (R.getD 2 []).length + (R.getD 3 []).length
  | [a, b, c, d], _ => by simp [List.getD]; omega
theorem tell_le (G : GSt) : G.lookS.2.length ≤ G.R.flatten.length := by
  have hp := (tell_perm G.began G.R).length_eq
  rw [List.length_append, List.length_map, List.length_map] at hp
  rcases look_cases G with ⟨_, e⟩ | ⟨y, hs, ⟨h0, e⟩ | ⟨_, e⟩⟩ <;> rw [e]
  · exact Nat.zero_le _
  · show (K.tellL G.began G.R).length ≤ _; omega
  · exact Nat.zero_le _
theorem HOk.tell_len (h : HOk i G d pf t tk mk) : G.lookS.2.length ≤ 4 * i + 12 := by
  have h1 := tell_le G
  rw [flat4 h.ok.len] at h1
  have l0 := h.lens 0 (by decide); have l1 := h.lens 1 (by decide); have l2 := h.lens 2 (by decide); have l3 := h.lens 3 (by decide)
  omega
theorem HOk.poll (h : HOk i G d pf t tk mk) (x : Nat) : ∃ d', (∀ j ∈ G.lookS.2, ∃ k : Nat, k < i ∧ j = k ∧ t k = 1 ∧ mk k ≤ d') ∧ G.lookS.2.Nodup ∧ (G.lookS.1.begS x).S = G.S ∧ HOk (i + 1) (G.lookS.1.begS x) d' pf (toldT G.lookS.2 t) tk mk := by
  obtain ⟨d', h1, h2, h3, h4⟩ := h.look
  obtain ⟨h5, h6⟩ := h4.begS x
  exact ⟨d', h1, h2, h6.trans h3, h5⟩
/-- A picture whose sections have ended. -/
theorem HOk.ended (h : HOk i G d pf t tk mk) (k : Nat) (hk : mk k ≤ d) : endedB G.S (fun r => pf (64 * k + r)) = true := by
  refine ended_of h.ok.d1 fun r hr => ?_
  have := h.pic k r hr
  omega
end
theorem HOk.start : HOk 0 (GSt.new 4) 0 (fun _ => 0) (fun _ => 0) (fun _ => 0) (fun _ => 0) := by
  have hR : (GSt.new 4).R = List.replicate 4 [] := rfl
  refine ⟨⟨SSt.init_ok, rfl, Int.le_refl _, Int.le_refl _, Int.le_refl _, fun _ => rfl, fun y hy => (nomatch hy), Int.le_refl _, fun r _ => .inl (SSt.init_sin r), Nat.le_refl _, Nat.le_refl _, fun y hy => (nomatch hy), fun _ xs hx c hc => ?_, fun y hy => (nomatch hy)⟩, fun c hc => ?_, fun _ _ _ => Int.le_refl _, fun _ => Nat.zero_le _, fun _ _ => rfl, fun k hk => absurd hk (by decide), fun c hc => (nomatch hc), List.nodup_nil⟩
  · rw [hR] at hx; obtain rfl := List.eq_of_mem_replicate hx; cases hc
  · rw [hR]
    have : (List.replicate 4 ([] : List K.Cl)).getD c [] = [] := by
      match c, hc with
      | 0, _ => rfl
      | 1, _ => rfl
      | 2, _ => rfl
      | 3, _ => rfl
    rw [this]; simp; omega
end Go.Proofs.YtefippjakkgjkaaDoor
