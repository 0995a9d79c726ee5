/- strconv.FormatUint at base 10, strconv.Itoa: what they answer; what is kept. -/
import Derived.Test.YtedfkonpkmckbaaDoorShelf28
import Derived.Test.YtedfkonpkmckbaaDoorStr
import Derived.Test.YtedfkonpkmckbaaDoorMut
namespace Go.Proofs.YtedfkonpkmckbaaDoor
open Go.RowKit Go.Sort Go.Lib

theorem keeps_grow (w : World) (k : Nat) (os : Array Obj) : Keeps w (grow (w.drewN k) os) := by
  have h := Keeps.drewN w k
  refine ⟨h.os, h.tape, h.output, Nat.le_trans h.size (by simp [grow]), fun b hb => ?_⟩
  have hb2 : b < (w.drewN k).heap.size := Nat.lt_of_lt_of_le hb h.size
  rw [← h.block b hb]
  show ((w.drewN k).heap ++ os)[b]? = _
  rw [Array.getElem?_append_left hb2]
/-- The tables that strconv and strings read. -/
structure Tabs (w : World) : Prop where
  pow : TabIs Tryd.prog w "internal/strconv.uint64pow10" .u64 pow10Tab
  space : TabIs Tryd.prog w "strings.asciiSpace" .u8 asciiSpaceTab
theorem tabIs_keeps {w w' : World} {name : String} {k : IntKind} {zs : List Int} (h : TabIs Tryd.prog w name k zs) (hk : Keeps w w') : TabIs Tryd.prog w' name k zs := by
  unfold TabIs World.var? at *
  cases hg : Tryd.prog.globalNamed name with
  | none => simp [hg] at h
  | some g =>
    simp only [hg, Option.bind_some] at h ⊢
    have hlt : g < w.heap.size := by
      rcases Nat.lt_or_ge g w.heap.size with h' | h'
      · exact h'
      · rw [Array.getElem?_eq_none h'] at h; simp at h
    rw [hk.block g hlt]
    exact h
theorem Tabs.keeps {w w' : World} (h : Tabs w) (hk : Keeps w w') : Tabs w' := ⟨tabIs_keeps h.pow hk, tabIs_keeps h.space hk⟩
theorem zero24 (w : World) : (zeroValue 82).run Tryd.prog w = .ok (.agg zeros24) w := by kernel_rfl
theorem holds_zero0 (w : World) (T : TypeId) (nd : Nat) (hs : nd ≤ 24) : Holds (fun (b : UInt8) => Value.int .u8 (b.toNat : Int)) (w.alloc (.cells zeros24 T)) w.heap.size 0 (Array.replicate nd (0 : UInt8)) := fun j hj => by
  have hj' : j < nd := by simpa using hj
  refine ⟨?_, World.frozen?_alloc_new _ _ _ _⟩
  rw [World.cell?_alloc_new, zeros24_at _ (by omega), getElem!_pos _ j hj]
  simp
theorem fin_zero (w : World) (o : Obj) (dk : Array UInt8) (k : Nat) : ∃ os, (putRow (fun (b : UInt8) => Value.int .u8 (b.toNat : Int)) (w.alloc o) w.heap.size 0 dk).drewN k = grow (w.drewN k) os := by
  rw [alloc_eq_grow]
  obtain ⟨os', _, e⟩ := putRow_grow_new (fun (b : UInt8) => Value.int .u8 (b.toNat : Int)) w #[o] w.heap.size 0 dk (Nat.le_refl _)
  exact ⟨os', by rw [e]; rfl⟩
theorem itoa_any (n : Int) (h0 : -9223372036854775808 ≤ n) (h1 : n ≤ 9223372036854775807) (w : World) (hT : Tabs w) :
    Calls Tryd.prog 26 #[.int .i64 n] w fun e w' => e = .returned (.string ⟨(itoa n).toArray⟩) ∧ Keeps w w' := by
  refine (Tryd.strconv_Itoa n h0 h1 w hT.pow).mono ?_
  rintro e w' ⟨he, k, os, rfl⟩
  exact ⟨he, keeps_grow w k os⟩
set_option maxHeartbeats 6400000 in
set_option maxRecDepth 100000 in
theorem fmtu0_any (u : Nat) (hu64 : u < 18446744073709551616) (w : World) (hT : Tabs w) :
    Calls Tryd.prog 36 #[.int .u64 u, .int .i64 10] w fun e w' => e = .returned (.string ⟨(decDigits u).toArray⟩) ∧ Keeps w w' := by
  by_cases hs : u < 100
  · have hsI : (u : Int) < 100 := by omega
    go_enter Tryd.func36, Tryd.ntmps36
    go_wp2_with (go_at_call 44; refine (Tryd.internal_strconv_small u hs _).mono ?_; rintro e w' ⟨rfl, rfl⟩)
    go_ret
    exact ⟨rfl, Keeps.refl _⟩
  · have hsI : ¬ (u : Int) < 100 := by omega
    have hu1 : 1 ≤ u := by omega
    have hnd20 : nDigits u ≤ 20 := by have := numDigits_eq u hu1 hu64; split at this <;> omega
    have hal : Tryd.prog.arrayLen 82 = 24 := by kernel_rfl
    have hsl1 : ∀ W, (Instr.sliceAt 82 (.pointer (some ⟨w.heap.size, 0, none⟩)) none (some (.int .i64 (nDigits u : Int))) none).run Tryd.prog W = .ok (.slice (some ⟨w.heap.size, 0, none⟩) (nDigits u) 24) W := fun W => by
      rw [run_sliceAt_array_h W 82 ⟨w.heap.size, 0, none⟩ (by kernel_rfl) .i64 (nDigits u : Int) (by omega) (by rw [hal]; omega)]
      go_simp
    have hH0 := holds_zero0 w 82 (nDigits u) (by omega)
    have hfmt := Tryd.internal_strconv_formatBase10 w.heap.size 0 24 u (Array.replicate (nDigits u) 0) (w.alloc (.cells zeros24 82)) hH0 (by rw [Array.size_replicate]; exact lt_pow_nDigits u) hu64 (by rw [Array.size_replicate]; omega)
    rw [Array.size_replicate] at hfmt
    have hnd := Tryd.internal_strconv_numDigits u hu1 hu64 (w.alloc (.cells zeros24 82)) (tabIs_alloc hT.pow _)
    have hz := zero24
    obtain ⟨Z, hZ⟩ : ∃ Z, Z = zeros24 := ⟨_, rfl⟩
    rw [← hZ] at hz hnd hfmt hH0
    have HH0 := Lib.hid hH0
    replace hZ := Lib.hid hZ
    replace hfmt := Lib.hid hfmt
    replace hnd := Lib.hid hnd
    replace hT := Lib.hid hT
    clear hH0 hal
    go_enter Tryd.func36, Tryd.ntmps36
    go_wp2_with fail
    with_reducible refine hnd.out.mono ?_
    rintro e w' ⟨rfl, rfl⟩
    go_wp2_with fail
    with_reducible refine hfmt.out.mono ?_
    rintro e w' ⟨rfl, k, v', dk, rfl, hF⟩
    have hcv : (convert 65 9 (.slice (some ⟨w.heap.size, 0, none⟩) (nDigits u) 24)).run Tryd.prog ((putRow (fun (b : UInt8) => Value.int .u8 (b.toNat : Int)) (w.alloc (.cells Z 82)) w.heap.size 0 dk).drewN k) = .ok (.string ⟨(decDigits u).toArray⟩) ((putRow (fun (b : UInt8) => Value.int .u8 (b.toNat : Int)) (w.alloc (.cells Z 82)) w.heap.size 0 dk).drewN k) := by
      have h := run_convert_bytes_back (P := Tryd.prog) ((putRow (fun (b : UInt8) => Value.int .u8 (b.toNat : Int)) (w.alloc (.cells Z 82)) w.heap.size 0 dk).drewN k) 65 9 5 ⟨w.heap.size, 0, none⟩ 24 (decDigits u) Tryd.underlying65 Tryd.underlying5 Tryd.underlying9 (fun j hj => by
        rw [row_is_numeral hF j hj, add_plain, World.cell?_drewN]
        exact cell?_putRow (fun (b : UInt8) => Value.int .u8 (b.toNat : Int)) _ w.heap.size 0 _ dk HH0.out (by rw [hF.size, Array.size_replicate]) j (by rw [hF.size]; rw [decDigits_length] at hj; exact hj))
      rw [decDigits_length] at h
      exact h
    have hfin := fin_zero w (.cells Z 82) dk k
    generalize (putRow (fun (b : UInt8) => Value.int .u8 (b.toNat : Int)) (w.alloc (.cells Z 82)) w.heap.size 0 dk).drewN k = W at *
    replace hfin := Lib.hid hfin
    replace hF := Lib.hid hF
    clear HH0
    go_wp2_with fail
    go_ret
    obtain ⟨os, rfl⟩ := hfin.out
    exact ⟨rfl, keeps_grow w k os⟩
theorem fmtu_any (u : Nat) (hu64 : u < 18446744073709551616) (w : World) (hT : Tabs w) :
    Calls Tryd.prog 25 #[.int .u64 u, .int .i64 10] w fun e w' => e = .returned (.string ⟨(decDigits u).toArray⟩) ∧ Keeps w w' := by
  have h0 := fmtu0_any u hu64 w hT
  replace h0 := Lib.hid h0
  replace hT := Lib.hid hT
  go_enter Tryd.func25, Tryd.ntmps25
  go_wp2_with fail
  with_reducible refine h0.out.mono ?_
  rintro e w' ⟨rfl, hK⟩
  replace hK := Lib.hid hK
  go_wp2_with fail
  go_ret
  exact ⟨rfl, hK.out⟩
end Go.Proofs.YtedfkonpkmckbaaDoor
