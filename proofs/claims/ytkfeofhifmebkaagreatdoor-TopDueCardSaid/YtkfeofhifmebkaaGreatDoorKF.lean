/- The tops: a verified evaluator of the program (KF). -/
import Derived.Test.YtkfeofhifmebkaaGreatDoorTab
import Derived.Test.YtkfeofhifmebkaaGreatDoorEvD
import Derived.KernelRfl
set_option maxRecDepth 100000
namespace Go.Ev
open Go Go.Proofs
def glob0 : List SV := [.int .u8 (.lit 0), .int .u8 (.lit 1), .int .u8 (.lit 56), .int .u8 (.lit 2), .int .u8 (.lit 57), .int .u8 (.lit 49), .int .u8 (.lit 28), .int .u8 (.lit 3), .int .u8 (.lit 61), .int .u8 (.lit 58), .int .u8 (.lit 42), .int .u8 (.lit 50), .int .u8 (.lit 38), .int .u8 (.lit 29), .int .u8 (.lit 17), .int .u8 (.lit 4), .int .u8 (.lit 62), .int .u8 (.lit 47), .int .u8 (.lit 59), .int .u8 (.lit 36), .int .u8 (.lit 45), .int .u8 (.lit 43), .int .u8 (.lit 51), .int .u8 (.lit 22), .int .u8 (.lit 53), .int .u8 (.lit 39), .int .u8 (.lit 33), .int .u8 (.lit 30), .int .u8 (.lit 24), .int .u8 (.lit 18), .int .u8 (.lit 12), .int .u8 (.lit 5), .int .u8 (.lit 63), .int .u8 (.lit 55), .int .u8 (.lit 48), .int .u8 (.lit 27), .int .u8 (.lit 60), .int .u8 (.lit 41), .int .u8 (.lit 37), .int .u8 (.lit 16), .int .u8 (.lit 46), .int .u8 (.lit 35), .int .u8 (.lit 44), .int .u8 (.lit 21), .int .u8 (.lit 52), .int .u8 (.lit 32), .int .u8 (.lit 23), .int .u8 (.lit 11), .int .u8 (.lit 54), .int .u8 (.lit 26), .int .u8 (.lit 40), .int .u8 (.lit 15), .int .u8 (.lit 34), .int .u8 (.lit 20), .int .u8 (.lit 31), .int .u8 (.lit 10), .int .u8 (.lit 25), .int .u8 (.lit 14), .int .u8 (.lit 19), .int .u8 (.lit 9), .int .u8 (.lit 13), .int .u8 (.lit 8), .int .u8 (.lit 7), .int .u8 (.lit 6)]
def glob1 : List SV := [.int .u8 (.lit 0), .int .u8 (.lit 0), .int .u8 (.lit 0), .int .u8 (.lit 0), .int .u8 (.lit 0), .int .u8 (.lit 0), .int .u8 (.lit 0), .int .u8 (.lit 0), .int .u8 (.lit 0), .int .u8 (.lit 1), .int .u8 (.lit 1), .int .u8 (.lit 1), .int .u8 (.lit 1), .int .u8 (.lit 1), .int .u8 (.lit 0), .int .u8 (.lit 0), .int .u8 (.lit 0), .int .u8 (.lit 0), .int .u8 (.lit 0), .int .u8 (.lit 0), .int .u8 (.lit 0), .int .u8 (.lit 0), .int .u8 (.lit 0), .int .u8 (.lit 0), .int .u8 (.lit 0), .int .u8 (.lit 0), .int .u8 (.lit 0), .int .u8 (.lit 0), .int .u8 (.lit 0), .int .u8 (.lit 0), .int .u8 (.lit 0), .int .u8 (.lit 0), .int .u8 (.lit 1), .int .u8 (.lit 0), .int .u8 (.lit 0), .int .u8 (.lit 0), .int .u8 (.lit 0), .int .u8 (.lit 0), .int .u8 (.lit 0), .int .u8 (.lit 0), .int .u8 (.lit 0), .int .u8 (.lit 0), .int .u8 (.lit 0), .int .u8 (.lit 0), .int .u8 (.lit 0), .int .u8 (.lit 0), .int .u8 (.lit 0), .int .u8 (.lit 0), .int .u8 (.lit 0), .int .u8 (.lit 0), .int .u8 (.lit 0), .int .u8 (.lit 0), .int .u8 (.lit 0), .int .u8 (.lit 0), .int .u8 (.lit 0), .int .u8 (.lit 0), .int .u8 (.lit 0), .int .u8 (.lit 0), .int .u8 (.lit 0), .int .u8 (.lit 0), .int .u8 (.lit 0), .int .u8 (.lit 0), .int .u8 (.lit 0), .int .u8 (.lit 0), .int .u8 (.lit 0), .int .u8 (.lit 0), .int .u8 (.lit 0), .int .u8 (.lit 0), .int .u8 (.lit 0), .int .u8 (.lit 0), .int .u8 (.lit 0), .int .u8 (.lit 0), .int .u8 (.lit 0), .int .u8 (.lit 0), .int .u8 (.lit 0), .int .u8 (.lit 0), .int .u8 (.lit 0), .int .u8 (.lit 0), .int .u8 (.lit 0), .int .u8 (.lit 0), .int .u8 (.lit 0), .int .u8 (.lit 0), .int .u8 (.lit 0), .int .u8 (.lit 0), .int .u8 (.lit 0), .int .u8 (.lit 0), .int .u8 (.lit 0), .int .u8 (.lit 0), .int .u8 (.lit 0), .int .u8 (.lit 0), .int .u8 (.lit 0), .int .u8 (.lit 0), .int .u8 (.lit 0), .int .u8 (.lit 0), .int .u8 (.lit 0), .int .u8 (.lit 0), .int .u8 (.lit 0), .int .u8 (.lit 0), .int .u8 (.lit 0), .int .u8 (.lit 0), .int .u8 (.lit 0), .int .u8 (.lit 0), .int .u8 (.lit 0), .int .u8 (.lit 0), .int .u8 (.lit 0), .int .u8 (.lit 0), .int .u8 (.lit 0), .int .u8 (.lit 0), .int .u8 (.lit 0), .int .u8 (.lit 0), .int .u8 (.lit 0), .int .u8 (.lit 0), .int .u8 (.lit 0), .int .u8 (.lit 0), .int .u8 (.lit 0), .int .u8 (.lit 0), .int .u8 (.lit 0), .int .u8 (.lit 0), .int .u8 (.lit 0), .int .u8 (.lit 0), .int .u8 (.lit 0), .int .u8 (.lit 0), .int .u8 (.lit 0), .int .u8 (.lit 0), .int .u8 (.lit 0), .int .u8 (.lit 0), .int .u8 (.lit 0), .int .u8 (.lit 0), .int .u8 (.lit 0), .int .u8 (.lit 0), .int .u8 (.lit 0), .int .u8 (.lit 0), .int .u8 (.lit 0), .int .u8 (.lit 0), .int .u8 (.lit 0), .int .u8 (.lit 0), .int .u8 (.lit 0), .int .u8 (.lit 0), .int .u8 (.lit 0), .int .u8 (.lit 0), .int .u8 (.lit 0), .int .u8 (.lit 0), .int .u8 (.lit 0), .int .u8 (.lit 0), .int .u8 (.lit 0), .int .u8 (.lit 0), .int .u8 (.lit 0), .int .u8 (.lit 0), .int .u8 (.lit 0), .int .u8 (.lit 0), .int .u8 (.lit 0), .int .u8 (.lit 0), .int .u8 (.lit 0), .int .u8 (.lit 0), .int .u8 (.lit 0), .int .u8 (.lit 0), .int .u8 (.lit 0), .int .u8 (.lit 0), .int .u8 (.lit 0), .int .u8 (.lit 0), .int .u8 (.lit 0), .int .u8 (.lit 0), .int .u8 (.lit 0), .int .u8 (.lit 0), .int .u8 (.lit 0), .int .u8 (.lit 0), .int .u8 (.lit 0), .int .u8 (.lit 0), .int .u8 (.lit 0), .int .u8 (.lit 0), .int .u8 (.lit 0), .int .u8 (.lit 0), .int .u8 (.lit 0), .int .u8 (.lit 0), .int .u8 (.lit 0), .int .u8 (.lit 0), .int .u8 (.lit 0), .int .u8 (.lit 0), .int .u8 (.lit 0), .int .u8 (.lit 0), .int .u8 (.lit 0), .int .u8 (.lit 0), .int .u8 (.lit 0), .int .u8 (.lit 0), .int .u8 (.lit 0), .int .u8 (.lit 0), .int .u8 (.lit 0), .int .u8 (.lit 0), .int .u8 (.lit 0), .int .u8 (.lit 0), .int .u8 (.lit 0), .int .u8 (.lit 0), .int .u8 (.lit 0), .int .u8 (.lit 0), .int .u8 (.lit 0), .int .u8 (.lit 0), .int .u8 (.lit 0), .int .u8 (.lit 0), .int .u8 (.lit 0), .int .u8 (.lit 0), .int .u8 (.lit 0), .int .u8 (.lit 0), .int .u8 (.lit 0), .int .u8 (.lit 0), .int .u8 (.lit 0), .int .u8 (.lit 0), .int .u8 (.lit 0), .int .u8 (.lit 0), .int .u8 (.lit 0), .int .u8 (.lit 0), .int .u8 (.lit 0), .int .u8 (.lit 0), .int .u8 (.lit 0), .int .u8 (.lit 0), .int .u8 (.lit 0), .int .u8 (.lit 0), .int .u8 (.lit 0), .int .u8 (.lit 0), .int .u8 (.lit 0), .int .u8 (.lit 0), .int .u8 (.lit 0), .int .u8 (.lit 0), .int .u8 (.lit 0), .int .u8 (.lit 0), .int .u8 (.lit 0), .int .u8 (.lit 0), .int .u8 (.lit 0), .int .u8 (.lit 0), .int .u8 (.lit 0), .int .u8 (.lit 0), .int .u8 (.lit 0), .int .u8 (.lit 0), .int .u8 (.lit 0), .int .u8 (.lit 0), .int .u8 (.lit 0), .int .u8 (.lit 0), .int .u8 (.lit 0), .int .u8 (.lit 0), .int .u8 (.lit 0), .int .u8 (.lit 0), .int .u8 (.lit 0), .int .u8 (.lit 0), .int .u8 (.lit 0), .int .u8 (.lit 0), .int .u8 (.lit 0), .int .u8 (.lit 0), .int .u8 (.lit 0), .int .u8 (.lit 0), .int .u8 (.lit 0), .int .u8 (.lit 0), .int .u8 (.lit 0), .int .u8 (.lit 0), .int .u8 (.lit 0), .int .u8 (.lit 0), .int .u8 (.lit 0), .int .u8 (.lit 0)]
def glob2 : List SV := [.int .u64 (.lit 1), .int .u64 (.lit 10), .int .u64 (.lit 100), .int .u64 (.lit 1000), .int .u64 (.lit 10000), .int .u64 (.lit 100000), .int .u64 (.lit 1000000), .int .u64 (.lit 10000000), .int .u64 (.lit 100000000), .int .u64 (.lit 1000000000), .int .u64 (.lit 10000000000), .int .u64 (.lit 100000000000), .int .u64 (.lit 1000000000000), .int .u64 (.lit 10000000000000), .int .u64 (.lit 100000000000000), .int .u64 (.lit 1000000000000000), .int .u64 (.lit 10000000000000000), .int .u64 (.lit 100000000000000000), .int .u64 (.lit 1000000000000000000), .int .u64 (.lit 10000000000000000000)]
def glob5 : List SV := [.int .u8 (.lit 0), .int .u8 (.lit 1), .int .u8 (.lit 28), .int .u8 (.lit 2), .int .u8 (.lit 29), .int .u8 (.lit 14), .int .u8 (.lit 24), .int .u8 (.lit 3), .int .u8 (.lit 30), .int .u8 (.lit 22), .int .u8 (.lit 20), .int .u8 (.lit 15), .int .u8 (.lit 25), .int .u8 (.lit 17), .int .u8 (.lit 4), .int .u8 (.lit 8), .int .u8 (.lit 31), .int .u8 (.lit 27), .int .u8 (.lit 13), .int .u8 (.lit 23), .int .u8 (.lit 21), .int .u8 (.lit 19), .int .u8 (.lit 16), .int .u8 (.lit 7), .int .u8 (.lit 26), .int .u8 (.lit 12), .int .u8 (.lit 18), .int .u8 (.lit 6), .int .u8 (.lit 11), .int .u8 (.lit 5), .int .u8 (.lit 10), .int .u8 (.lit 9)]
def glob0f (g : Nat) : Option (List SV) := match g with
  | 0 => some glob0
  | 1 => some glob1
  | 2 => some glob2
  | 5 => some glob5
  | _ => none
noncomputable def E1 : Env := { ty := tyT, fn := fnT, glob := glob0f, intr := fun _ => none, symBin := fun _ _ _ _ _ => none, symConv := fun _ _ _ => none, simple := simpleF, logAdd := fun _ _ => Option.none }
theorem glob0_free : GlobFree E1 := by
  intro g cs h
  have h : glob0f g = some cs := h
  unfold glob0f at h
  split at h <;> first | (cases h; done) | (cases h; rfl)
def wordsB : ByteArray := ⟨#[104, 111, 115, 116, 32, 115, 111, 102, 116, 32, 106, 111, 98, 32, 116, 97, 115, 107, 32, 101, 110, 100, 32, 99, 97, 108, 108, 32, 102, 114, 101, 101, 100, 32, 103, 111, 110, 101, 32, 109, 105, 115, 115, 101, 100, 32, 101, 109, 105, 116, 32, 111, 118, 101, 114, 32, 119, 97, 105, 116]⟩
def wordsL : List SV := [.str ⟨#[104, 111, 115, 116]⟩, .str ⟨#[115, 111, 102, 116]⟩, .str ⟨#[106, 111, 98]⟩, .str ⟨#[116, 97, 115, 107]⟩, .str ⟨#[101, 110, 100]⟩, .str ⟨#[99, 97, 108, 108]⟩, .str ⟨#[102, 114, 101, 101, 100]⟩, .str ⟨#[103, 111, 110, 101]⟩, .str ⟨#[109, 105, 115, 115, 101, 100]⟩, .str ⟨#[101, 109, 105, 116]⟩, .str ⟨#[111, 118, 101, 114]⟩, .str ⟨#[119, 97, 105, 116]⟩]
noncomputable def okFields : R → Bool
  | .ok (.slc n 0 (.lit 12) (some 12), st) => match getT st.heap n with
    | some (.cells cs 9) => beqSVs cs wordsL
    | _ => false
  | _ => false
theorem okFields_ok {r : R} (h : okFields r = true) : ∃ n st, r = .ok (.slc n 0 (.lit 12) (some 12), st) ∧ getT st.heap n = some (.cells wordsL 9) := by
  unfold okFields at h
  split at h
  · rename_i n st
    split at h
    · rename_i cs hb
      exact ⟨n, st, rfl, by rw [hb, beqSVs_ok _ _ h]⟩
    · cases h
  · cases h
theorem fields_run : okFields (runF E1 1000000 130 [.str wordsB] ⟨.leaf, 0⟩) = true := by kernel_rfl
/-- strings.Fields of the words of the events' kinds -/
noncomputable def fieldsI : IX := ⟨fun args st k fb => match args with
  | [v] => match beqSV v (.str wordsB) with
    | true => newK st (.cells wordsL 9) fun n st => k (.slc n 0 (.lit 12) (some 12)) st
    | false => fb ()
  | _ => fb ()⟩
theorem fieldsI_ok {E : Env} (hg : E.glob = glob0f) {ν : Nat → Int} {base : Nat} {args : List SV} {st : St} {k : SV → St → R} {fb : Unit → R} {out} (h : fieldsI.run args st k fb = .ok out) :
    (∃ v st', k v st' = .ok out ∧ CallLands Tryz.prog E ν base 130 args st v st') ∨ fb () = .ok out := by
  unfold fieldsI at h
  dsimp only at h
  split at h
  · rename_i v
    split at h
    · rename_i hv
      have hv := beqSV_ok _ _ hv; subst hv
      obtain ⟨st1, h1, h2, h3⟩ := newK_ok h
      refine .inl ⟨_, st1, h1, ?_⟩
      obtain ⟨n, st', e1, e2⟩ := okFields_ok fields_run
      have hl := runF_ok (base := base) (ν := ν) (E := E1) (eok (fun op k x j y v h => by cases h) (fun k j x v h => by cases h) (fun a j b h => by cases h)) (fun g x hx => by cases hx) e1
      have hgf : GlobFree E := fun g cs e => glob0_free g cs (by rw [hg] at e; exact e)
      exact CallLands.fresh (E' := E1) hg.symm hgf hl rfl e2 rfl h2 h3
    · exact .inr h
  · exact .inr h
end Go.Ev
