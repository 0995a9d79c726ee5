/- The document's digits. -/
import Derived.Test.YtmmglikbajiepaaDoorIsaR
import Derived.Lib.ItoaLen
namespace Go.Proofs.YtmmglikbajiepaaDoor
open Go.RowKit Go.Lib

theorem str_app (a b : List UInt8) : str a ++ str b = str (a ++ b) := by
  apply ByteArray.ext
  simp [str, ByteArray.data_append]
/-- A byte's digit. -/
theorem conv_one {W : World} {g : Nat} {t : TypeId} (c : UInt8) (x : Int) (hx : (c.toNat : Int) = x) (h : Blk W g t [.int .u8 x]) : (convert 38 9 (.slice (some ⟨g, 0, none⟩) 1 1)).run Tryd.prog W = .ok (.string (str [c])) W := by
  refine run_convert_bytes_back (P := Tryd.prog) W 38 9 5 ⟨g, 0, none⟩ 1 [c] Tryd.underlying38 Tryd.underlying5 Tryd.underlying9 (fun j hj => ?_)
  have hj0 : j = 0 := by simpa using hj
  subst hj0
  have := h.cell 0 (by simp)
  rw [add_plain, this]
  simp [hx]
theorem str_size (l : List UInt8) : (str l).size = l.length := by simp [str, ByteArray.size]
theorem digits_len {u : Nat} (h : u < 18446744073709551616) : (decDigits u).length ≤ 20 := by
  rw [decDigits_length]
  exact nDigits_le20 u h
theorem digC (x : Nat) (h : x < 10) : ((UInt8.ofNat (48 + x)).toNat : Int) = 48 + (x : Int) := by
  rw [UInt8.toNat_ofNat']; omega
set_option maxRecDepth 100000 in
set_option maxHeartbeats 1000000 in
theorem dig_nat (u : Nat) : u ≤ 4294967296 → ∀ w, Calls Tryd.prog 25 #[.int .i64 (u : Int)] w fun e w' => e = .returned (.string (str (decDigits u))) ∧ Keeps w w' := by
  induction u using Nat.strongRecOn with
  | _ u ih =>
  intro hu w
  by_cases h : u < 10
  · rw [decDigits_one h]
    have hI0 : ¬ (u : Int) < 0 := by omega
    have hI1 : (u : Int) < 10 := by omega
    have hI2 : 0 ≤ (u : Int) := by omega
    have hc := conv_one (UInt8.ofNat (48 + u)) (48 + (u : Int)) (digC u h) (Blk.new w 5 [.int .u8 (48 + (u : Int))])
    have hK := Keeps.alloc w (.cells [.int .u8 (48 + (u : Int))].toArray 5)
    generalize str [UInt8.ofNat (48 + u)] = s at *
    replace hK := Lib.hid hK
    clear ih
    go_enter Tryd.func25, Tryd.ntmps25
    go_wp2_with fail
    go_ret
    exact ⟨rfl, hK.out⟩
  · have hI0 : ¬ (u : Int) < 0 := by omega
    have hI1 : ¬ (u : Int) < 10 := by omega
    have hq : (u : Int).tdiv 10 = ((u / 10 : Nat) : Int) := by rw [Int.tdiv_eq_ediv_of_nonneg (by omega)]; omega
    have hm : (u : Int).tmod 10 = ((u % 10 : Nat) : Int) := by rw [Int.tmod_eq_emod_of_nonneg (by omega)]; omega
    have hi := ih (u / 10) (by omega) (by omega)
    have hcv : ∀ W g, Blk W g 5 [.int .u8 (48 + ((u % 10 : Nat) : Int))] → (convert 38 9 (.slice (some ⟨g, 0, none⟩) 1 1)).run Tryd.prog W = .ok (.string (str [UInt8.ofNat (48 + u % 10)])) W := fun W g hb => conv_one _ _ (digC _ (by omega)) hb
    have hres : str (decDigits u) = str (decDigits (u / 10)) ++ str [UInt8.ofNat (48 + u % 10)] := by rw [str_app]; conv => lhs; rw [decDigits, dif_neg h]
    rw [hres]
    have hx0 : u % 10 < 10 := by omega
    have z1 : (str (decDigits (u / 10))).size ≤ 20 := by rw [str_size]; exact digits_len (by omega)
    have z2 : (str [UInt8.ofNat (48 + u % 10)]).size = 1 := rfl
    have hwy : IntKind.i64.wrap ((u / 10 : Nat) : Int) = ((u / 10 : Nat) : Int) := IntWalk.i64_in _ (by omega)
    generalize u % 10 = x at *
    generalize str (decDigits (u / 10)) = s1 at *
    generalize str [UInt8.ofNat (48 + x)] = s2 at *
    generalize u / 10 = y at *
    have hxI : (0 : Int) ≤ (x : Int) := by omega
    have hxJ : (x : Int) < 10 := by omega
    have hw48 : IntKind.i64.wrap (48 + (x : Int)) = 48 + (x : Int) := IntWalk.i64_in _ (by omega)
    have hw8 : IntKind.u8.wrap (48 + (x : Int)) = 48 + (x : Int) := by rw [IntKind.wrap_u8]; omega
    have hnb : Blk (w.alloc (.cells #[.int .u8 (48 + (x : Int))] 5)).drew w.heap.size 5 [.int .u8 (48 + (x : Int))] := Blk.new w 5 _
    have hcA := hcv _ _ hnb
    replace hnb := Lib.hid hnb
    replace hcv := Lib.hid hcv
    replace hi := Lib.hid hi
    clear ih hres
    go_enter Tryd.func25, Tryd.ntmps25
    go_wp2_with fail
    go_region_with (go_at_call 25; with_reducible refine (hi.out _).mono ?_; rintro e w' ⟨rfl, hK1⟩; have hcB := hcv.out _ _ (Blk.new w' 5 [.int .u8 (48 + (x : Int))]); (try have hcC := hcv.out _ _ (Blk.keeps hnb.out hK1)); replace hK1 := Lib.hid hK1)
    all_goals go_wp2_with fail
    all_goals go_ret
    all_goals exact ⟨rfl, by first | exact ((Keeps.drew w).trans hK1.out).trans (Keeps.alloc _ _) | exact ((Keeps.alloc w _).trans (Keeps.drew _)).trans hK1.out⟩
set_option maxHeartbeats 1000000 in
theorem dig_any (n : Int) (h0 : -4294967296 ≤ n) (h1 : n ≤ 4294967296) (w : World) : Calls Tryd.prog 25 #[.int .i64 n] w fun e w' => e = .returned (.string (str (itoa n))) ∧ Keeps w w' := by
  by_cases hn : n < 0
  · obtain ⟨u, rfl⟩ : ∃ u : Nat, n = -(u : Int) := ⟨n.natAbs, by omega⟩
    have hd := dig_nat u (by omega)
    have hneg : IntKind.i64.wrap (- -(u : Int)) = (u : Int) := by rw [Int.neg_neg]; exact IntWalk.i64_in _ (by omega)
    rw [itoa_neg u (by omega), show (45 : UInt8) :: decDigits u = [45] ++ decDigits u from rfl, ← str_app, show str [45] = ⟨#[45]⟩ from rfl]
    have hsz : (str (decDigits u)).size ≤ 20 := by rw [str_size]; exact digits_len (by omega)
    generalize str (decDigits u) = s at *
    replace hd := Lib.hid hd
    go_enter Tryd.func25, Tryd.ntmps25
    go_wp2_with fail
    with_reducible refine (hd.out _).mono ?_
    rintro e w1 ⟨rfl, hK⟩
    replace hK := Lib.hid hK
    go_wp2_with fail
    go_ret
    exact ⟨rfl, hK.out⟩
  · obtain ⟨u, rfl⟩ : ∃ u : Nat, n = (u : Int) := ⟨n.toNat, by omega⟩
    rw [itoa_nonneg]
    exact dig_nat u (by omega) w
end Go.Proofs.YtmmglikbajiepaaDoor
