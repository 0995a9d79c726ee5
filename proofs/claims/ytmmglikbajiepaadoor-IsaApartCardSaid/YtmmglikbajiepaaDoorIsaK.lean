/- A number's lowest bytes. -/
import Derived.Test.YtmmglikbajiepaaDoorIsaI
namespace Go.Proofs.YtmmglikbajiepaaDoor
open Go.RowKit

/-- A slice of bytes. -/
def Byts (w : World) (v : Value) (l : List Int) : Prop := Slc w v (l.map (Value.int .u8))
theorem infoU8 : (Tryd.prog.info? 5).map (fun i => (i.zero, i.size, i.bytes)) = some (some (.int .u8 0), 1, 1) := by kernel_rfl
theorem byte_ones (l : List Int) : ∀ y ∈ l.map (Value.int .u8), y.oneCell' = true := by
  intro y hy
  obtain ⟨z, _, rfl⟩ := List.mem_map.1 hy
  rfl
/-- A number's lowest bytes, the lowest first. -/
def lowL (n : Int) : Nat → List Int
  | 0 => []
  | k + 1 => n % 256 :: lowL (n / 256) k
theorem lowL_len (k : Nat) : ∀ n, (lowL n k).length = k := by
  induction k with
  | zero => intro n; rfl
  | succ k ih => intro n; rw [lowL, List.length_cons, ih]
set_option maxRecDepth 100000 in
set_option maxHeartbeats 1000000 in
theorem low_any (n : Int) (k : Nat) (hk : k ≤ 4) (h0 : -9223372036854775808 ≤ n) (h1 : n < 9223372036854775808) (w : World) : Calls Tryd.prog 33 #[.int .i64 n, .int .i64 (k : Int)] w fun e w' => ∃ v, e = .returned v ∧ Byts w' v (lowL n k) ∧ Keeps w w' := by
  obtain ⟨L, hL⟩ : ∃ L, L = lowL n k := ⟨_, rfl⟩
  rw [← hL]
  replace hL := Lib.hid hL
  go_enter Tryd.func33, Tryd.ntmps33
  go_wp2_with fail
  go_loopw [0, 5, 7] (fun nv ov iv wr => ∃ (m : Int) (j : Nat) (M : List Int), nv = .int .i64 m ∧ -9223372036854775808 ≤ m ∧ m < 9223372036854775808 ∧ j ≤ k ∧ iv = .int .i64 (j : Int) ∧ L = M ++ lowL m (k - j) ∧ M.length = j ∧ wr.ownsRow w.heap.size 5 1 ov j (M.map (Value.int .u8)) ∧ Keeps w wr) (fun _ _ iv _ => k - (intOf iv).toNat)
  case atStart => exact ⟨n, 0, [], rfl, h0, h1, by omega, rfl, by rw [hL.out]; rfl, rfl, ⟨by simp, .inl ⟨rfl, rfl⟩⟩, Keeps.refl _⟩
  case round =>
    obtain ⟨m, j, M, rfl, hm0, hm1, hj, rfl, hLM, hMl, hown, hK⟩ := hrel
    replace hLM := Lib.hid hLM
    replace hMl := Lib.hid hMl
    by_cases hjk : j < k
    · have hjI : (j : Int) < (k : Int) := by omega
      replace hown := Lib.hid hown
      replace hK := Lib.hid hK
      have hb0 : w.heap.size ≤ wr.heap.size := hK.out.size
      replace hb0 := Lib.hid hb0
      go_wp2_with (at_builtin; refine app1 rfl _ _ 38 5 (.int .u8 0) 1 rfl Tryd.underlying38 infoU8 rfl w.heap.size _ j _ rfl hown.out _ rfl rfl ?_ ?_ hb0.out ?_; rotate_left; rotate_left; intro g cap w1 hown1 hgrow hbel; replace hown1 := Lib.hid hown1; replace hbel := Lib.hid hbel; clear hgrow hown)
      case refine_1 => unfold maxLen; omega
      case refine_2 => omega
      go_roundw
      case rel =>
        refine ⟨m / 256, j + 1, M ++ [m % 256], rfl, by omega, by omega, by omega, by go_num, ?_, by rw [List.length_append, hMl.out]; rfl, by rw [List.map_append]; exact hown1.out, Below.trans hK.out hbel.out⟩
        rw [hLM.out, show k - j = (k - (j + 1)) + 1 by omega, lowL, List.append_assoc]
        rfl
      case measure => (simp [intOf]; try omega)
    · have hjI : ¬ (j : Int) < (k : Int) := by omega
      have hjk : j = k := by omega
      have hfin : L = M := by rw [hLM.out, hjk, Nat.sub_self]; simp [lowL]
      have hsl := slc_of_row hown
      replace hfin := Lib.hid hfin
      replace hsl := Lib.hid hsl
      replace hK := Lib.hid hK
      clear hown
      go_wp2_with fail
      go_ret
      exact ⟨_, rfl, by rw [hfin.out]; exact hsl.out, hK.out⟩
end Go.Proofs.YtmmglikbajiepaaDoor
