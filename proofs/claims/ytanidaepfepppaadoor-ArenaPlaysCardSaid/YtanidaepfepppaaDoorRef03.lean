/- The reference's slots: Find, Count, Free. -/
import Derived.Test.YtanidaepfepppaaDoorAr2I
namespace Go.Proofs.YtanidaepfepppaaDoor
open Go.RowKit

theorem RowS.setCell {sz base : Nat} {e : TypeId} {w : World} {g n cap : Nat} {els : List (List Value)} (h : RowS sz base e w (.slice (some ⟨g, 0, none⟩) n cap) els) (i j : Nat) (hi : i < els.length) (hj : j < sz) (u : Value) :
    RowS sz base e (w.setCell ⟨g, i * sz + j, none⟩ u) (.slice (some ⟨g, 0, none⟩) n cap) (els.set i ((els.getD i []).set j u)) := by
  obtain ⟨⟨hl, h⟩, hs⟩ := h
  rcases h with ⟨h, _⟩ | ⟨g', cap', cur, h, hb, hg, hn, hm, hc, ht⟩
  · cases h
  · simp only [Value.slice.injEq, Option.some.injEq, Addr.mk.injEq] at h
    obtain ⟨⟨rfl, _⟩, rfl, rfl⟩ := h
    have hB : Blk w g e cur.toList := hg
    have hB2 := hB.set (i * sz + j) u
    refine ⟨⟨?_, .inr ⟨g, cap, (cur.toList.set (i * sz + j) u).toArray, by simp, hb, hB2, by simpa using hn, hm, by simp [hc], ?_⟩⟩, ?_⟩
    · rw [← flat_set hs i j u hi hj, List.length_set, hl]; simp
    · rw [List.length_set, List.take_set, ht, flat_set hs i j u hi hj]
    · intro el hel
      rcases List.mem_or_eq_of_mem_set hel with h' | rfl
      · exact hs el h'
      · rw [List.length_set, List.getD, List.getElem?_eq_getElem hi]; exact hs _ (List.getElem_mem hi)
theorem RowS.frozen {sz base : Nat} {e : TypeId} {w : World} {g n cap : Nat} {els : List (List Value)} (h : RowS sz base e w (.slice (some ⟨g, 0, none⟩) n cap) els) (k : Nat) : w.frozen? ⟨g, k, none⟩ = false := by
  rcases h.1.2 with ⟨h, _⟩ | ⟨g', cap', cur, h, hb, hg, _⟩
  · cases h
  · simp only [Value.slice.injEq, Option.some.injEq, Addr.mk.injEq] at h
    obtain ⟨⟨rfl, _⟩, rfl, rfl⟩ := h
    exact Blk.frozen (cs := cur.toList) hg k
theorem RowS.cells {sz base : Nat} {e : TypeId} {w : World} {g n cap : Nat} {els : List (List Value)} (h : RowS sz base e w (.slice (some ⟨g, 0, none⟩) n cap) els) (i j : Nat) (hi : i < els.length) (hj : j < sz) : w.cell? ⟨g, i * sz + j, none⟩ = some ((els.getD i []).getD j undef) := by
  obtain ⟨q, cp, hv, _, _, hc⟩ := SlcS.get h.slcs
  obtain ⟨b, off, hq, hc⟩ := hc i hi
  simp only [Value.slice.injEq] at hv
  obtain ⟨h1, _, _⟩ := hv
  rw [hq] at h1
  simp only [Option.some.injEq, Addr.mk.injEq] at h1
  obtain ⟨rfl, rfl, _⟩ := h1
  have := hc j hj
  rwa [Nat.zero_add] at this

abbrev ISlot : Type := Slot Int
def rEl (s : ISlot) : List Value := [.int .i64 (s.gen : Int), .bool s.used, .int .i64 s.x]
/-- A list of the reference's slots. -/
def Slots (w : World) (v : Value) (l : List ISlot) : Prop := SlcS 3 w v (l.map rEl)
theorem Slots.keeps {w w' : World} {v : Value} {l : List ISlot} (h : Slots w v l) (hk : Keeps w w') : Slots w' v l := SlcS.below h hk
theorem Slots.get {w : World} {v : Value} {l : List ISlot} (h : Slots w v l) : ∃ p cap, v = .slice p l.length cap ∧ l.length ≤ cap ∧ cap ≤ 9223372036854775807 ∧
    ∀ i, (hi : i < l.length) → ∃ b off, p = some ⟨b, off, none⟩ ∧ w.cell? ⟨b, off + i * 3, none⟩ = some (.int .i64 (l[i].gen : Int)) ∧ w.cell? ⟨b, off + i * 3 + 1, none⟩ = some (.bool l[i].used) ∧ w.cell? ⟨b, off + i * 3 + 2, none⟩ = some (.int .i64 l[i].x) := by
  obtain ⟨p, cap, hv, hl, hc, hcell⟩ := SlcS.get h
  rw [List.length_map] at hv hl hcell
  refine ⟨p, cap, hv, hl, hc, fun i hi => ?_⟩
  obtain ⟨b, off, hp, hk⟩ := hcell i hi
  have h0 := hk 0 (by omega)
  have h1 := hk 1 (by omega)
  have h2 := hk 2 (by omega)
  refine ⟨b, off, hp, ?_, ?_, ?_⟩
  · rw [Nat.add_zero] at h0; rw [h0]; simp [List.getD, hi, rEl]
  · rw [h1]; simp [List.getD, hi, rEl]
  · rw [h2]; simp [List.getD, hi, rEl]
theorem slots_one (l : List ISlot) : ∀ el ∈ l.map rEl, ∀ y ∈ el, y.oneCell' = true := by
  intro el hel y hy
  obtain ⟨s, _, rfl⟩ := List.mem_map.1 hel
  simp only [rEl, List.mem_cons, List.not_mem_nil, or_false] at hy
  rcases hy with rfl | rfl | rfl <;> rfl
theorem infoRS : (Tryd.prog.info? 64).map (fun i => (i.zero, i.size, i.bytes)) = some (some (.agg #[.int .i64 0, .bool false, .int .i64 0]), 3, 24) := by kernel_rfl
theorem find_geN {l : List ISlot} (k : Nat) (hk : k < l.length) (g : Int) : findE l (k : Int) g = if l[k].used = false then 7 else if (l[k].gen : Int) ≠ g then 7 else 0 := by
  unfold findE
  rw [if_neg (by omega), Int.toNat_natCast, List.getElem?_eq_getElem hk]
  cases h : l[k].used <;> by_cases h2 : (l[k].gen : Int) = g <;> simp [h, h2]
set_option maxRecDepth 100000 in
set_option maxHeartbeats 1000000 in
theorem rFind_any (v : Value) (l : List ISlot) (s g : Int) (w : World) (hv : Slots w v l) :
    Calls Tryd.prog 23 #[v, .int .i64 s, .int .i64 g] w fun e w' => e = .returned (.int .i64 (findE l s g)) ∧ w = w' := by
  obtain ⟨p, cap, rfl, hl, hc, hcell⟩ := hv.get
  clear hv
  by_cases h1 : s < 0
  · rw [show findE l s g = 2 from if_pos (.inl h1)]
    go_enter Tryd.func23, Tryd.ntmps23
    go_wp2_with fail
    go_ret
    exact ⟨rfl, rfl⟩
  · by_cases h2 : (l.length : Int) ≤ s
    · rw [show findE l s g = 2 from if_pos (.inr h2)]
      go_enter Tryd.func23, Tryd.ntmps23
      go_wp2_with fail
      go_ret
      exact ⟨rfl, rfl⟩
    · obtain ⟨k, rfl⟩ : ∃ k : Nat, s = k := ⟨s.toNat, by omega⟩
      have hk : k < l.length := by omega
      obtain ⟨b, off, rfl, z0, z1, z2⟩ := hcell k hk
      rw [find_geN k hk]
      generalize l[k].gen = G at *
      generalize l[k].x = X at *
      have h2' : (k : Int) < (l.length : Int) := by omega
      have h0' : (0 : Int) ≤ (k : Int) := by omega
      cases hu : l[k].used with
      | false =>
        rw [hu] at z1
        rw [if_pos rfl]
        clear hcell hu
        go_enter Tryd.func23, Tryd.ntmps23
        go_wp2_with fail
        go_ret
        exact ⟨rfl, rfl⟩
      | true =>
        rw [hu] at z1
        rw [if_neg (by decide)]
        clear hcell hu
        by_cases hg : (G : Int) = g
        · rw [if_neg (by simpa using hg)]
          have hgn : ((G : Int) != g) = false := by simpa using hg
          replace hg := Lib.hid hg
          go_enter Tryd.func23, Tryd.ntmps23
          go_wp2_with fail
          go_ret
          exact ⟨rfl, rfl⟩
        · rw [if_pos hg]
          have hgn : ((G : Int) != g) = true := by simpa using hg
          go_enter Tryd.func23, Tryd.ntmps23
          go_wp2_with fail
          go_ret
          exact ⟨rfl, rfl⟩
set_option maxRecDepth 100000 in
set_option maxHeartbeats 1000000 in
theorem rCount_any (v : Value) (l : List ISlot) (w : World) (hv : Slots w v l) :
    Calls Tryd.prog 22 #[v] w fun e w' => e = .returned (.tuple #[.int .i64 ((l.filter (·.used)).length : Int), .int .i64 ((l.filter (·.open)).length : Int)]) ∧ w = w' := by
  obtain ⟨p, cap, rfl, hl, hc, hcell⟩ := hv.get
  replace hcell := Lib.hid hcell
  clear hv
  go_enter Tryd.func22, Tryd.ntmps22
  go_wp2_with fail
  go_loop [4, 5, 6] (fun n k i => ∃ j : Nat, j ≤ l.length ∧ i = .int .i64 j ∧ ∃ a c : Nat, n = .int .i64 a ∧ k = .int .i64 c ∧ a = ((l.take j).filter (·.used)).length ∧ c = ((l.take j).filter (·.open)).length ∧ a ≤ j ∧ c ≤ j) (fun _ _ i => l.length - (intOf i).toNat)
  case atStart => exact ⟨0, Nat.zero_le _, rfl, 0, 0, rfl, rfl, rfl, rfl, Nat.le_refl _, Nat.le_refl _⟩
  case round =>
    obtain ⟨j, hj, rfl, a, c, rfl, rfl, ha, hcc, ha2, hc2⟩ := hrel
    by_cases hlt : j < l.length
    · obtain ⟨b, off, rfl, z0, z1, z2⟩ := hcell.out j hlt
      have hs1 : ((l.take (j + 1)).filter (·.used)).length = a + (if l[j].used then 1 else 0) := by
        rw [List.take_succ_eq_append_getElem hlt, List.filter_append, List.length_append, ← ha]
        cases hq : l[j].used <;> simp [hq]
      have hs2 : ((l.take (j + 1)).filter (·.open)).length = c + (if l[j].open then 1 else 0) := by
        rw [List.take_succ_eq_append_getElem hlt, List.filter_append, List.length_append, ← hcc]
        cases hq : l[j].open <;> simp [hq]
      unfold Slot.open at hs2
      generalize l[j].x = X at *
      have hltI := Int.ofNat_lt.2 hlt
      try push_cast at hltI
      cases hu : l[j].used with
      | true =>
        rw [hu] at z1 hs1 hs2
        simp at hs1 hs2
        replace hs1 := Lib.hid hs1
        replace hs2 := Lib.hid hs2
        replace ha := Lib.hid ha
        replace hcc := Lib.hid hcc
        replace hu := Lib.hid hu
        go_wp2_with fail
        go_round
        case rel => exact ⟨j + 1, by omega, by go_num, a + 1, c, by go_num, rfl, hs1.out.symm, hs2.out.symm, by omega, by omega⟩
        case measure => (simp [intOf]; try omega)
      | false =>
        rw [hu] at z1 hs1 hs2
        by_cases hg : l[j].gen ≤ 255
        · simp [hg] at hs1 hs2
          have hgI : (l[j].gen : Int) ≤ 255 := by omega
          generalize l[j].gen = G at *
          replace hs1 := Lib.hid hs1
          replace hs2 := Lib.hid hs2
          replace ha := Lib.hid ha
          replace hcc := Lib.hid hcc
          replace hu := Lib.hid hu
          go_wp2_with fail
          go_round
          case rel => exact ⟨j + 1, by omega, by go_num, a, c + 1, rfl, by go_num, hs1.out.symm, hs2.out.symm, by omega, by omega⟩
          case measure => (simp [intOf]; try omega)
        · simp [hg] at hs1 hs2
          have hgI : ¬ (l[j].gen : Int) ≤ 255 := by omega
          generalize l[j].gen = G at *
          replace hs1 := Lib.hid hs1
          replace hs2 := Lib.hid hs2
          replace ha := Lib.hid ha
          replace hcc := Lib.hid hcc
          replace hu := Lib.hid hu
          go_wp2_with fail
          go_round
          case rel => exact ⟨j + 1, by omega, by go_num, a, c, rfl, rfl, hs1.out.symm, hs2.out.symm, by omega, by omega⟩
          case measure => (simp [intOf]; try omega)
    · obtain rfl : j = l.length := by omega
      rw [List.take_length] at ha hcc
      replace ha := Lib.hid ha
      replace hcc := Lib.hid hcc
      go_wp2_with fail
      go_ret2
      rw [← ha.out, ← hcc.out]
      exact ⟨rfl, rfl⟩
end Go.Proofs.YtanidaepfepppaaDoor
