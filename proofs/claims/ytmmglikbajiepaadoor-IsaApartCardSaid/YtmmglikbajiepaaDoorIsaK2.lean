/- What the laws of this chapter know: known. -/
import Derived.Test.YtmmglikbajiepaaDoorIsaZ
namespace Go.Proofs.YtmmglikbajiepaaDoor
open Go.RowKit Go.Lib

theorem slcs_flat {sz : Nat} {w : World} {b : Nat} {t : TypeId} {els : List (List Value)} (h : Blk w b t els.flatten) (hl : ∀ el ∈ els, el.length = sz) (hm : els.length ≤ maxLen) : SlcS sz w (.slice (some ⟨b, 0, none⟩) els.length els.length) els := by
  refine ⟨_, _, rfl, Nat.le_refl _, hm, fun h => (by cases h), hl, fun i hi => ⟨b, 0, rfl, fun j hj => ?_⟩⟩
  have h1 := flat_get hl i j hi hj
  obtain ⟨hlt, he⟩ := List.getElem?_eq_some_iff.1 h1
  rw [Nat.zero_add, h.cell _ hlt, he]
theorem itoa_dig (n : Nat) (h : n < 10) : itoa (n : Int) = [UInt8.ofNat (48 + n)] := by rw [itoa_nonneg, decDigits_one h]
theorem text67 : textM ⟨67, 1, 2, 0, 0⟩ = [115, 116, 118, 32, 114, 49, 44, 32, 48, 44, 32, 114, 50] := by
  have h0 : itoa 0 = [48] := itoa_dig 0 (by decide)
  have h1 : itoa 1 = [49] := itoa_dig 1 (by decide)
  have h2 : itoa 2 = [50] := itoa_dig 2 (by decide)
  have hs : shapeB 67 = [100, 111, 115] := by decide +kernel
  have hn : nameB 67 = [115, 116, 118] := by decide +kernel
  unfold textM textB
  rw [if_pos (by decide +kernel)]
  simp only [hs, hn, tailB, partL, if_pos, h0, h1, h2]
  decide
theorem text73 : textM ⟨73, 0, 0, 0, 0⟩ = [101, 120, 105, 116] := by
  have hs : shapeB 73 = [] := by decide +kernel
  have hn : nameB 73 = [101, 120, 105, 116] := by decide +kernel
  unfold textM textB
  rw [if_pos (by decide +kernel)]
  simp only [hs, hn, tailB, List.append_nil]
def knownL : List InsS := [⟨0, 1, 0, 0, 5⟩, ⟨50, 2, 3, -2, 0⟩]
def knownB : List Int := [0, 16, 0, 0, 5, 0, 0, 0, 50, 35, 254, 255, 0, 0, 0, 0]
theorem knownE : bytesE knownL = 0 := by decide +kernel
theorem knownF : knownL.flatMap insB = knownB := by decide +kernel
set_option maxRecDepth 100000 in
set_option maxHeartbeats 2000000 in
theorem known_any (w : World) (hT : Tabs w) : Calls Tryd.prog 11 #[] w fun e w' => e = .returned (.bool true) ∧ Keeps w w' := by
  have hB := Blk.new w 34 (knownL.map insC).flatten
  have hK := Keeps.alloc w (.cells (knownL.map insC).flatten.toArray 34)
  have hsl := slcs_flat (sz := 5) hB (by intro el hel; obtain ⟨i, _, rfl⟩ := List.mem_map.1 hel; rfl) (by decide)
  have fb := bytes_any knownL (by decide) _ _ hsl
  rw [knownE, if_pos rfl, knownF] at fb
  replace fb := Lib.hid fb
  replace hK := Lib.hid hK
  clear hsl hB
  replace hT := Lib.hid hT
  go_enter Tryd.func11, Tryd.ntmps11
  go_wp2_with fail
  refine fb.out.mono ?_
  rintro e w1 ⟨v, rfl, hv, hK1⟩
  have hB2 := Blk.new w1 5 (knownB.map (Value.int .u8))
  have hK2 := Keeps.alloc w1 (.cells (knownB.map (Value.int .u8)).toArray 5)
  have fs := same_any knownB knownB v (.slice (some ⟨w1.heap.size, 0, none⟩) 16 16) _ (Byts.keeps hv hK2) (hB2.slc 16 16 (by decide) (by decide) (by decide))
  rw [sameL_self] at fs
  have hKa := (hK.out.trans hK1).trans hK2
  replace fs := Lib.hid fs
  replace hKa := Lib.hid hKa
  clear fb hv hB2 hK hK1 hK2
  go_wp2_with fail
  refine fs.out.mono ?_
  rintro e w2 ⟨rfl, hK3⟩
  have hKb := hKa.out.trans hK3
  have ft : Calls Tryd.prog 16 #[.agg #[.int .i64 67, .int .i64 1, .int .i64 2, .int .i64 0, .int .i64 0]] w2 fun e w' => e = .returned (.string (str (textM ⟨67, 1, 2, 0, 0⟩))) ∧ Keeps w2 w' := text_any ⟨67, 1, 2, 0, 0⟩ w2 (hT.out.keeps hKb)
  rw [text67, show str [115, 116, 118, 32, 114, 49, 44, 32, 48, 44, 32, 114, 50] = ⟨#[115, 116, 118, 32, 114, 49, 44, 32, 48, 44, 32, 114, 50]⟩ from rfl] at ft
  replace ft := Lib.hid ft
  replace hKb := Lib.hid hKb
  clear fs hKa hK3
  go_wp2_with fail
  with_reducible refine ft.out.mono ?_
  rintro e w3 ⟨rfl, hK4⟩
  have hKc := hKb.out.trans hK4
  have fx : Calls Tryd.prog 16 #[.agg #[.int .i64 73, .int .i64 0, .int .i64 0, .int .i64 0, .int .i64 0]] w3 fun e w' => e = .returned (.string (str (textM ⟨73, 0, 0, 0, 0⟩))) ∧ Keeps w3 w' := text_any ⟨73, 0, 0, 0, 0⟩ w3 (hT.out.keeps hKc)
  rw [text73, show str [101, 120, 105, 116] = ⟨#[101, 120, 105, 116]⟩ from rfl] at fx
  replace fx := Lib.hid fx
  replace hKc := Lib.hid hKc
  clear ft hKb hK4
  go_wp2_with fail
  with_reducible refine fx.out.mono ?_
  rintro e w4 ⟨rfl, hK5⟩
  have hKd := Lib.hid (hKc.out.trans hK5)
  clear fx hK5
  go_wp2_with fail
  go_ret
  exact ⟨rfl, hKd.out⟩
end Go.Proofs.YtmmglikbajiepaaDoor
