/- The walks of events' texts: the program's. -/
import Derived.Test.YtedfkonpkmckbaaDoorEvM
import Derived.BigRegion
namespace Go.Proofs.YtedfkonpkmckbaaDoor
open Go.RowKit Go.Lib

set_option maxHeartbeats 1000000 in
theorem right_any (t n : Int) (k a b : Int) (w : World) : Calls Tryd.prog 23 #[.agg #[.int .u64 t, .int .i64 k, .int .i64 a, .int .i64 b, .int .u64 n]] w fun e w' => e = .returned (.bool (isKd k)) ∧ Keeps w w' := by
  have hK := Keeps.alloc w (.cells #[.int .u64 t, .int .i64 k, .int .i64 a, .int .i64 b, .int .u64 n] 28)
  have hkd : isKd k = (decide (0 ≤ k) && decide (k ≤ 11)) := rfl
  by_cases h0 : 0 ≤ k
  · by_cases h1 : k ≤ 11
    · rw [hkd, decide_eq_true h0, decide_eq_true h1]
      replace hK := Lib.hid hK
      clear hkd
      go_enter Tryd.func23, Tryd.ntmps23
      go_wp2_with fail
      go_ret
      exact ⟨rfl, hK.out⟩
    · rw [hkd, decide_eq_true h0, decide_eq_false h1]
      replace hK := Lib.hid hK
      clear hkd
      go_enter Tryd.func23, Tryd.ntmps23
      go_wp2_with fail
      go_ret
      exact ⟨rfl, hK.out⟩
  · rw [hkd, decide_eq_false h0, Bool.false_and]
    replace hK := Lib.hid hK
    clear hkd
    go_enter Tryd.func23, Tryd.ntmps23
    go_wp2_with fail
    go_ret
    exact ⟨rfl, hK.out⟩
/-- The words as the program names them. -/
def wordsText : List UInt8 := [104, 111, 115, 116, 32, 115, 111, 102, 116, 32, 106, 111, 98, 32, 116, 97, 115, 107, 32, 101, 110, 100, 32, 99, 97, 108, 108, 32, 102, 114, 101, 101, 100, 32, 103, 111, 110, 101, 32, 109, 105, 115, 115, 101, 100, 32, 101, 109, 105, 116, 32, 111, 118, 101, 114, 32, 119, 97, 105, 116]
theorem words_fields : fields wordsText = words := by kernel_rfl
def wordsC : List Value := words.map fun l => .string (str l)
theorem fields_words (w : World) (hT : Tabs w) : Calls Tryd.prog 24 #[.string ⟨wordsText.toArray⟩] w fun e w' => e = .returned (.slice (some ⟨w.heap.size, 0, none⟩) 12 12) ∧ Blk w' w.heap.size 9 wordsC ∧ Keeps w w' := by
  have hl : (⟨wordsText.toArray⟩ : ByteArray).data.toList = wordsText := by simp
  have h := Tryd.strings_Fields_laid ⟨wordsText.toArray⟩ w (by decide) (fun j b hb => by
    rw [hl] at hb
    have hm := List.mem_of_getElem? hb
    have hall : ∀ x ∈ wordsText, x.toNat < 128 := by decide
    exact hall b hm) hT.space
  rw [hl, words_fields] at h
  refine h.mono ?_
  rintro e w' ⟨rfl, rfl⟩
  exact ⟨rfl, Blk.new w 9 wordsC, Keeps.alloc _ _⟩
set_option maxRecDepth 100000 in
set_option maxHeartbeats 1000000 in
theorem word_any (k : Int) (w : World) (hT : Tabs w) : Calls Tryd.prog 8 #[.int .i64 k] w fun e w' => e = .returned (.string (str (wordB k))) ∧ Keeps w w' := by
  have hr := right_any 0 0 k 0 0
  cases hk : isKd k with
  | false =>
    rw [hk] at hr
    rw [(wordB_empty k).2 hk]
    have hK0 : str [] = ⟨#[]⟩ := rfl
    rw [hK0]
    replace hr := Lib.hid hr
    clear hT hK0
    go_enter Tryd.func8, Tryd.ntmps8
    go_wp2_with fail
    with_reducible refine (hr.out _).mono ?_
    rintro e w1 ⟨rfl, hK⟩
    replace hK := Lib.hid hK
    go_wp2_with fail
    go_ret
    exact ⟨rfl, hK.out⟩
  | true =>
    rw [hk] at hr
    obtain ⟨h0, h1⟩ := (isKd_iff k).1 hk
    obtain ⟨n, rfl⟩ : ∃ n : Nat, k = n := ⟨k.toNat, by omega⟩
    have hwb : wordB (n : Int) = words.getD n [] := by unfold wordB; rw [if_pos hk, Int.toNat_natCast]
    have hn : n < 12 := by omega
    have hf := fun (W : World) (hK : Keeps w W) => fields_words W (hT.keeps hK)
    have hcell := fun (W : World) (B : Nat) (hB : Blk W B 9 wordsC) => hB.cellD n (by show n < 12; exact hn)
    rw [show wordsC.getD n undef = .string (str (words.getD n [])) by
      have : n < words.length := hn
      simp [wordsC, List.getD, this]] at hcell
    rw [hwb]
    generalize str (words.getD n []) = s at *
    have hfc : (⟨wordsText.toArray⟩ : ByteArray) = ⟨#[104, 111, 115, 116, 32, 115, 111, 102, 116, 32, 106, 111, 98, 32, 116, 97, 115, 107, 32, 101, 110, 100, 32, 99, 97, 108, 108, 32, 102, 114, 101, 101, 100, 32, 103, 111, 110, 101, 32, 109, 105, 115, 115, 101, 100, 32, 101, 109, 105, 116, 32, 111, 118, 101, 114, 32, 119, 97, 105, 116]⟩ := rfl
    rw [hfc] at hf
    replace hr := Lib.hid hr
    replace hf := Lib.hid hf
    replace hcell := Lib.hid hcell
    clear hT hfc hwb hk
    go_enter Tryd.func8, Tryd.ntmps8
    go_wp2_with fail
    with_reducible refine (hr.out _).mono ?_
    rintro e w1 ⟨rfl, hK⟩
    have hf1 := Lib.hid (hf.out w1 hK)
    replace hK := Lib.hid hK
    go_wp2_with fail
    with_reducible refine hf1.out.mono ?_
    rintro e w2 ⟨rfl, hB, hK2⟩
    have hc := hcell.out w2 _ hB
    have hK3 := Lib.hid (Keeps.trans hK.out hK2)
    clear hB hK2
    go_wp2_with fail
    go_ret
    exact ⟨rfl, hK3.out⟩
end Go.Proofs.YtedfkonpkmckbaaDoor
