/- The tops: a verified evaluator of the program (PC). -/
import Derived.Test.YtkfeofhifmebkaaGreatDoorEvD
import Derived.Test.YtkfeofhifmebkaaGreatDoorTab
namespace Go.Ev
open Go Go.Proofs
/-- what a rule answers -/
inductive RV where
  | n (x : SInt)
  | b (v : Bool)
  | a (i : Nat)
/-- a rule: an operation on two numbers of which one is not known -/
structure Rl where
  op : BinOp
  k : IntKind
  x : SInt
  j : IntKind
  y : SInt
  r : RV
def opN : BinOp → Nat
  | .add => 0
  | .sub => 1
  | .mul => 2
  | .quo => 3
  | .rem => 4
  | .and => 5
  | .or => 6
  | .xor => 7
  | .shl => 8
  | .shr => 9
  | .andNot => 10
  | .eql => 11
  | .neq => 12
  | .lss => 13
  | .leq => 14
  | .gtr => 15
  | .geq => 16
def sameSI (x y : SInt) : Bool := match x with
  | .lit a => match y with
    | .lit b => eqI a b
    | .atom _ => false
  | .atom a => match y with
    | .lit _ => false
    | .atom b => Nat.beq a b
def isRl (op : BinOp) (k : IntKind) (x : SInt) (j : IntKind) (y : SInt) (r : Rl) : Bool := match r with
  | ⟨op', k', x', j', y', _⟩ => match Nat.beq (opN op) (opN op') with
    | true => match sameSI x x' with
      | true => match sameSI y y' with
        | true => match eqK2 k k' with
          | true => eqK2 j j'
          | false => false
        | false => false
      | false => false
    | false => false
def findR (op : BinOp) (k : IntKind) (x : SInt) (j : IntKind) (y : SInt) : List Rl → Option SV
  | [] => none
  | r :: l => match isRl op k x j y r with
    | true => match r with
      | ⟨_, _, _, _, _, .n z⟩ => some (.int k z)
      | ⟨_, _, _, _, _, .b v⟩ => some (.bool v)
      | ⟨_, _, _, _, _, .a i⟩ => some (.abool i)
    | false => findR op k x j y l
/-- a number is not below that, and not above that -/
structure Rg where
  i : Nat
  lo : Int
  hi : Int
def findG {β : Type} (x : SInt) (no : β) : List Rg → (Int → Int → β) → β
  | [], k => match x with
    | .lit n => k n n
    | .atom _ => no
  | g :: l, k => match x with
    | .lit n => k n n
    | .atom j => match g with
      | ⟨i, lo, hi⟩ => match Nat.beq i j with
        | true => k lo hi
        | false => findG x no l k
def leI (a b : Int) : Bool := match ltI b a with
  | true => false
  | false => true
/-- a number compared with itself -/
def rSame (op : BinOp) : Option SV := match op with
  | .eql => some (.bool true)
  | .neq => some (.bool false)
  | .lss => some (.bool false)
  | .gtr => some (.bool false)
  | .leq => some (.bool true)
  | .geq => some (.bool true)
  | _ => none
/-- comparisons that the bounds decide -/
def rCmp (l : List Rg) (op : BinOp) (x y : SInt) : Option SV :=
  findG x none l fun a b => findG y none l fun c d => match op with
    | .lss => match ltI b c with
      | true => some (.bool true)
      | false => match leI d a with
        | true => some (.bool false)
        | false => none
    | .leq => match leI b c with
      | true => some (.bool true)
      | false => match ltI d a with
        | true => some (.bool false)
        | false => none
    | .gtr => match ltI d a with
      | true => some (.bool true)
      | false => match leI b c with
        | true => some (.bool false)
        | false => none
    | .geq => match leI d a with
      | true => some (.bool true)
      | false => match ltI b c with
        | true => some (.bool false)
        | false => none
    | .eql => match ltI b c with
      | true => some (.bool false)
      | false => match ltI d a with
        | true => some (.bool false)
        | false => none
    | .neq => match ltI b c with
      | true => some (.bool true)
      | false => match ltI d a with
        | true => some (.bool true)
        | false => none
    | _ => none
/-- a conversion -/
structure Cv where
  k : IntKind
  j : IntKind
  x : Nat
  y : SInt
def findC (k j : IntKind) (x : SInt) : List Cv → Option SV
  | [] => none
  | c :: l => match x with
    | .lit _ => none
    | .atom i => match c with
      | ⟨k', j', a, b⟩ => match Nat.beq i a with
        | true => match eqK2 k k' with
          | true => match eqK2 j j' with
            | true => some (.int k b)
            | false => findC k j x l
          | false => findC k j x l
        | false => findC k j x l
/-- two lengths of the log -/
def logSub (op : BinOp) (k : IntKind) (x y : SInt) : Option SV := match x with
  | .atom i => match y with
    | .atom j => match op with
      | .sub => match Nat.ble 5000 j with
        | true => match Nat.ble j i with
          | true => match Nat.blt i 5100 with
            | true => some (.int k (.lit (.ofNat (i - j))))
            | false => none
          | false => none
        | false => none
      | _ => none
    | .lit b => match op with
      | .eql => match Nat.ble 5000 i with
        | true => match Nat.blt i 5100 with
          | true => match b with
            | .ofNat n => match Nat.beq n 4096 with
              | true => some (.bool false)
              | false => none
            | _ => none
          | false => none
        | false => none
      | _ => none
  | .lit _ => none
def kMin (k : IntKind) : Int := match k with
  | .i8 => -128
  | .i16 => -32768
  | .i32 => -2147483648
  | .i64 => -9223372036854775808
  | _ => 0
def kMax (k : IntKind) : Int := match k with
  | .i8 => 127
  | .u8 => 255
  | .i16 => 32767
  | .u16 => 65535
  | .i32 => 2147483647
  | .u32 => 4294967295
  | .i64 => 9223372036854775807
  | .u64 => 18446744073709551615
def inK (k : IntKind) (lo hi : Int) : Bool := match leI (kMin k) lo with
  | true => leI hi (kMax k)
  | false => false
/-- a number that lies between bounds, and a literal -/
def rLit (g : List Rg) (op : BinOp) (k : IntKind) (x : SInt) (b : Int) : Option SV := findG x none g fun lo hi => match inK k lo hi with
  | false => none
  | true => match leI 0 lo with
    | false => none
    | true => match op with
      | .add => match eqI b 0 with
        | true => some (.int k x)
        | false => none
      | .sub => match eqI b 0 with
        | true => some (.int k x)
        | false => none
      | .or => match eqI b 0 with
        | true => some (.int k x)
        | false => none
      | .rem => match ltI hi b with
        | true => some (.int k x)
        | false => none
      | .quo => match eqI b 1 with
        | true => some (.int k x)
        | false => match ltI hi b with
          | true => some (.int k (.lit 0))
          | false => none
      | _ => none
/-- so, of shifts -/
def rShift (g : List Rg) (op : BinOp) (k : IntKind) (x : SInt) (b : Int) : Option SV := findG x none g fun lo hi => match inK k lo hi with
  | false => none
  | true => match leI 0 lo with
    | false => none
    | true => match eqI b 0 with
      | true => match op with
        | .shl => some (.int k x)
        | .shr => some (.int k x)
        | _ => none
      | false => match op with
        | .shr => match leI 8 b with
          | true => match ltI hi 256 with
            | true => some (.int k (.lit 0))
            | false => none
          | false => none
        | _ => none
/-- a literal ahead -/
def litR (g : List Rg) (op : BinOp) (k : IntKind) (b : Int) (x : SInt) : Option SV := findG x none g fun lo hi => match inK k lo hi with
  | false => none
  | true => match eqI b 0 with
    | true => match op with
      | .add => some (.int k x)
      | .or => match leI 0 lo with
        | true => some (.int k x)
        | false => none
      | _ => none
    | false => none
def isShift (op : BinOp) : Bool := match op with
  | .shl => true
  | .shr => true
  | _ => false
def rSym (l : List Rl) (g : List Rg) (op : BinOp) (k : IntKind) (x : SInt) (j : IntKind) (y : SInt) : Option SV := match findR op k x j y l with
  | some v => some v
  | none => match isShift op with
   | true => match y with
    | .lit b => rShift g op k x b
    | .atom _ => none
   | false => match eqK2 k j with
    | true => match (match sameSI x y with
        | true => rSame op
        | false => rCmp g op x y) with
      | some v => some v
      | none => match y with
        | .lit b => match rLit g op k x b with
          | some v => some v
          | none => match k with
            | .i64 => logSub op .i64 x y
            | _ => none
        | .atom _ => match x with
          | .lit b => litR g op k b y
          | .atom _ => match k with
            | .i64 => logSub op .i64 x y
            | _ => none
    | false => none
def rConv (l : List Cv) (g : List Rg) (k j : IntKind) (x : SInt) : Option SV := match findC k j x l with
  | some v => some v
  | none => findG x none g fun lo hi => match inK k lo hi with
    | true => some (.int k x)
    | false => none
def rLog (a j : Nat) : Option Nat := match Nat.ble 5000 a with
  | true => match Nat.blt (a + j) 5100 with
    | true => some (a + j)
    | false => none
  | false => none
variable {P : Program}
theorem bin_int {op : BinOp} {ik : IntKind} {x y n : Int} (h : (intF op).run ik x y (fun v => .ok (v, ⟨.leaf, 0⟩)) = .ok (.int ik (.lit n), ⟨.leaf, 0⟩)) (w : World) : (binOp op 0 (.int ik x) (.int ik y)).run P w = .ok (.int ik n) w := by
  obtain ⟨v, h1, V, h2, h3⟩ := intF_ok (P := P) (ν := fun _ => 0) h
  simp only [Res.ok.injEq, Prod.mk.injEq, and_true] at h1
  subst h1
  have := h3 (fun _ => none)
  simp only [Rep, SInt.val] at this
  rw [h2 0 w, this]
theorem bin_bool {op : BinOp} {ik : IntKind} {x y : Int} {b : Bool} (h : (intF op).run ik x y (fun v => .ok (v, ⟨.leaf, 0⟩)) = .ok (.bool b, ⟨.leaf, 0⟩)) (w : World) : (binOp op 0 (.int ik x) (.int ik y)).run P w = .ok (.bool b) w := by
  obtain ⟨v, h1, V, h2, h3⟩ := intF_ok (P := P) (ν := fun _ => 0) h
  simp only [Res.ok.injEq, Prod.mk.injEq, and_true] at h1
  subst h1
  have := h3 (fun _ => none)
  simp only [Rep] at this
  rw [h2 0 w, this]
/-- what a table may answer -/
def SymOk (P : Program) (ν : Nat → Int) (op : BinOp) (k : IntKind) (a b : Int) (v : SV) : Prop := ∃ V, (∀ w, (binOp op 0 (.int k a) (.int k b)).run P w = .ok V w) ∧ ∀ σ, Rep ν σ v V
theorem SymOk.int {ν : Nat → Int} {op : BinOp} {k : IntKind} {a b n : Int} {s : SInt} (h : (intF op).run k a b (fun v => .ok (v, ⟨.leaf, 0⟩)) = .ok (.int k (.lit n), ⟨.leaf, 0⟩)) (e : s.val ν = n) : SymOk P ν op k a b (.int k s) :=
  ⟨.int k n, fun w => bin_int h w, fun σ => by simp only [Rep]; rw [e]⟩
theorem SymOk.bool {ν : Nat → Int} {op : BinOp} {k : IntKind} {a b : Int} {t : Bool} (h : (intF op).run k a b (fun v => .ok (v, ⟨.leaf, 0⟩)) = .ok (.bool t, ⟨.leaf, 0⟩)) : SymOk P ν op k a b (.bool t) :=
  ⟨.bool t, fun w => bin_bool h w, fun σ => by simp only [Rep]⟩
theorem symAdd {ν : Nat → Int} {k : IntKind} {a b : Int} {s : SInt} (e : s.val ν = k.wrap (a + b)) : SymOk P ν .add k a b (.int k s) := .int (n := k.wrap (a + b)) (by simp only [intF]; rw [wrapK_eq]; rfl) e
theorem symSub {ν : Nat → Int} {k : IntKind} {a b : Int} {s : SInt} (e : s.val ν = k.wrap (a - b)) : SymOk P ν .sub k a b (.int k s) := .int (n := k.wrap (a - b)) (by simp only [intF]; rw [wrapK_eq]; rfl) e
theorem symMul {ν : Nat → Int} {k : IntKind} {a b : Int} {s : SInt} (e : s.val ν = k.wrap (a * b)) : SymOk P ν .mul k a b (.int k s) := .int (n := k.wrap (a * b)) (by simp only [intF]; rw [wrapK_eq]; rfl) e
theorem symQuo {ν : Nat → Int} {k : IntKind} {a b : Int} {s : SInt} (hb : b ≠ 0) (e : s.val ν = k.wrap (a.tdiv b)) : SymOk P ν .quo k a b (.int k s) := .int (n := k.wrap (a.tdiv b)) (by
  have : eqI b 0 = false := by rw [eqI_eq]; simpa using hb
  simp only [intF, this]; rw [wrapK_eq]) e
theorem symRem {ν : Nat → Int} {k : IntKind} {a b : Int} {s : SInt} (hb : b ≠ 0) (e : s.val ν = a.tmod b) : SymOk P ν .rem k a b (.int k s) := .int (n := a.tmod b) (by
  have : eqI b 0 = false := by rw [eqI_eq]; simpa using hb
  simp only [intF, this]; rw [forceI_eq]) e
theorem symEql {ν : Nat → Int} {k : IntKind} {a b : Int} {t : Bool} (e : t = decide (a = b)) : SymOk P ν .eql k a b (.bool t) := .bool (by
  simp only [intF]; rw [eqI_eq, ← e]; cases t <;> rfl)
theorem symNeq {ν : Nat → Int} {k : IntKind} {a b : Int} {t : Bool} (e : t = !decide (a = b)) : SymOk P ν .neq k a b (.bool t) := .bool (by
  simp only [intF]; rw [eqI_eq, e]; cases decide (a = b) <;> rfl)
theorem symLss {ν : Nat → Int} {k : IntKind} {a b : Int} {t : Bool} (e : t = decide (a < b)) : SymOk P ν .lss k a b (.bool t) := .bool (by
  simp only [intF]; rw [ltI_eq, ← e]; cases t <;> rfl)
theorem symGtr {ν : Nat → Int} {k : IntKind} {a b : Int} {t : Bool} (e : t = decide (b < a)) : SymOk P ν .gtr k a b (.bool t) := .bool (by
  simp only [intF]; rw [ltI_eq, ← e]; cases t <;> rfl)
theorem symLeq {ν : Nat → Int} {k : IntKind} {a b : Int} {t : Bool} (e : t = !decide (b < a)) : SymOk P ν .leq k a b (.bool t) := .bool (by
  simp only [intF]; rw [ltI_eq, e]; cases decide (b < a) <;> rfl)
theorem symGeq {ν : Nat → Int} {k : IntKind} {a b : Int} {t : Bool} (e : t = !decide (a < b)) : SymOk P ν .geq k a b (.bool t) := .bool (by
  simp only [intF]; rw [ltI_eq, e]; cases decide (a < b) <;> rfl)


/-! the tables are right -/
def SymAt (P : Program) (ν : Nat → Int) (op : BinOp) (k : IntKind) (a : Int) (j : IntKind) (b : Int) (v : SV) : Prop := ∃ V, (∀ w, (binOp op 0 (.int k a) (.int j b)).run P w = .ok V w) ∧ ∀ σ, Rep ν σ v V
def rlV (k : IntKind) : RV → SV
  | .n z => .int k z
  | .b v => .bool v
  | .a i => .abool i
def RlOk (P : Program) (ν : Nat → Int) (r : Rl) : Prop := SymAt P ν r.op r.k (r.x.val ν) r.j (r.y.val ν) (rlV r.k r.r)
theorem opN_inj {a b : BinOp} (h : opN a = opN b) : a = b := by cases a <;> cases b <;> first | rfl | (simp [opN] at h)
theorem sameSI_ok {x y : SInt} (h : sameSI x y = true) : x = y := by
  unfold sameSI at h
  cases x <;> cases y <;> dsimp only at h <;> first | (cases h; done) | (rw [eqI_ok h]; done) | (rw [Nat.eq_of_beq_eq_true h]; done)
theorem findR_ok {ν : Nat → Int} {op : BinOp} {k : IntKind} {x : SInt} {j : IntKind} {y : SInt} {v : SV} : ∀ {l : List Rl}, (∀ r ∈ l, RlOk P ν r) → findR op k x j y l = some v → SymAt P ν op k (x.val ν) j (y.val ν) v := by
  intro l
  induction l with
  | nil => intro _ h; cases h
  | cons r l ih =>
    intro hl h
    simp only [findR] at h
    split at h
    · rename_i g
      have hr := hl r (.head _)
      obtain ⟨op', k', x', j', y', z⟩ := r
      simp only [isRl] at g
      split at g
      case h_2 => cases g
      rename_i g1
      split at g
      case h_2 => cases g
      rename_i g2
      split at g
      case h_2 => cases g
      rename_i g3
      split at g
      case h_2 => cases g
      rename_i g4
      have e1 := opN_inj (Nat.eq_of_beq_eq_true g1)
      have e2 := sameSI_ok g2
      have e3 := sameSI_ok g3
      have e4 := eqK2_ok g4
      have e5 := eqK2_ok g
      subst e1; subst e2; subst e3; subst e4; subst e5
      cases z <;> (dsimp only at h; cases h; exact hr)
    · exact ih (fun r hr => hl r (.tail _ hr)) h
def RgOk (ν : Nat → Int) (l : List Rg) : Prop := ∀ g ∈ l, g.lo ≤ ν g.i ∧ ν g.i ≤ g.hi
theorem findG_ok {ν : Nat → Int} {α : Type} {x : SInt} {k : Int → Int → Option α} {v : α} : ∀ {l : List Rg}, RgOk ν l → findG x none l k = some v → ∃ lo hi, k lo hi = some v ∧ lo ≤ x.val ν ∧ x.val ν ≤ hi := by
  intro l
  induction l with
  | nil =>
    intro _ h
    cases x with
    | lit n => exact ⟨n, n, h, Int.le_refl _, Int.le_refl _⟩
    | atom i => cases h
  | cons g l ih =>
    intro hl h
    cases x with
    | lit n => exact ⟨n, n, h, Int.le_refl _, Int.le_refl _⟩
    | atom i =>
      obtain ⟨a, lo, hi⟩ := g
      simp only [findG] at h
      split at h
      · rename_i g
        have e := Nat.eq_of_beq_eq_true g
        subst e
        exact ⟨lo, hi, h, hl _ (.head _)⟩
      · exact ih (fun r hr => hl r (.tail _ hr)) h
theorem leI_eq (a b : Int) : leI a b = decide (a ≤ b) := by
  unfold leI
  split
  · rename_i g
    rw [ltI_eq] at g
    have : b < a := by simpa using g
    simp; omega
  · rename_i g
    rw [ltI_eq] at g
    have : ¬ b < a := by simpa using g
    simp; omega
theorem SymOk.at {ν : Nat → Int} {op : BinOp} {k : IntKind} {a b : Int} {v : SV} (h : SymOk P ν op k a b v) : SymAt P ν op k a k b v := h
theorem rSame_ok {ν : Nat → Int} {op : BinOp} {k : IntKind} {a : Int} {v : SV} (h : rSame op = some v) : SymOk P ν op k a a v := by
  cases op <;> simp only [rSame] at h <;> first | (cases h; done) | skip
  all_goals cases h
  · exact symEql (by simp)
  · exact symNeq (by simp)
  · exact symLss (by simp)
  · exact symLeq (by simp)
  · exact symGtr (by simp)
  · exact symGeq (by simp)
theorem rCmp_ok {ν : Nat → Int} {l : List Rg} (hl : RgOk ν l) {op : BinOp} {k : IntKind} {x y : SInt} {v : SV} (h : rCmp l op x y = some v) : SymOk P ν op k (x.val ν) (y.val ν) v := by
  unfold rCmp at h
  obtain ⟨a, b, h, h1, h2⟩ := findG_ok hl h
  obtain ⟨c, d, h, h3, h4⟩ := findG_ok hl h
  cases op <;> dsimp only at h <;> try (cases h; done)
  all_goals
    split at h
    · rename_i g
      cases h
      first
        | (rw [ltI_eq] at g; have g : _ < _ := of_decide_eq_true g; first
            | exact symEql (by symm; rw [decide_eq_false_iff_not]; omega)
            | exact symNeq (by rw [decide_eq_false (by omega)]; rfl)
            | exact symLss (by symm; rw [decide_eq_true_iff]; omega)
            | exact symGtr (by symm; rw [decide_eq_true_iff]; omega))
        | (rw [leI_eq] at g; have g : _ ≤ _ := of_decide_eq_true g; first
            | exact symLeq (by rw [decide_eq_false (by omega)]; rfl)
            | exact symGeq (by rw [decide_eq_false (by omega)]; rfl))
    · split at h
      · rename_i g
        cases h
        first
          | (rw [ltI_eq] at g; have g : _ < _ := of_decide_eq_true g; first
              | exact symEql (by symm; rw [decide_eq_false_iff_not]; omega)
              | exact symNeq (by rw [decide_eq_false (by omega)]; rfl)
              | exact symLeq (by rw [decide_eq_true (by omega)]; rfl)
              | exact symGeq (by rw [decide_eq_true (by omega)]; rfl))
          | (rw [leI_eq] at g; have g : _ ≤ _ := of_decide_eq_true g; first
              | exact symLss (by symm; rw [decide_eq_false_iff_not]; omega)
              | exact symGtr (by symm; rw [decide_eq_false_iff_not]; omega))
      · cases h
theorem wrap_in {k : IntKind} {n : Int} (h1 : kMin k ≤ n) (h2 : n ≤ kMax k) : k.wrap n = n := by
  cases k <;> simp only [kMin, kMax] at h1 h2 <;> simp [IntKind.wrap, IntKind.bits, IntKind.signed] <;> (try split) <;> omega
theorem inK_ok {k : IntKind} {lo hi x : Int} (h : inK k lo hi = true) (h1 : lo ≤ x) (h2 : x ≤ hi) : k.wrap x = x ∧ kMin k ≤ x ∧ x ≤ kMax k := by
  unfold inK at h
  split at h
  case h_2 => cases h
  rename_i g
  rw [leI_eq] at g h
  have g : _ ≤ _ := of_decide_eq_true g
  have h : _ ≤ _ := of_decide_eq_true h
  exact ⟨wrap_in (by omega) (by omega), by omega, by omega⟩
theorem symOr0 {ν : Nat → Int} {k : IntKind} {a : Int} {s : SInt} (h0 : 0 ≤ a) (h1 : a ≤ kMax k) (e : s.val ν = a) : SymOk P ν .or k a 0 (.int k s) := by
  refine .int (n := a) ?_ e
  simp only [intF, bitsB]
  rw [forceI_eq]
  have e1 : (BitVec.ofInt k.bits a ||| BitVec.ofInt k.bits 0).toNat = a.toNat := by
    rw [show BitVec.ofInt k.bits 0 = 0#k.bits from by simp, BitVec.or_zero, BitVec.toNat_ofInt]
    rw [Int.emod_eq_of_lt h0]
    cases k <;> simp only [kMax] at h1 <;> simp [IntKind.bits] <;> omega
  rw [e1, Int.toNat_of_nonneg h0, wrap_in (by cases k <;> simp only [kMin] <;> omega) h1]
theorem sym0Or {ν : Nat → Int} {k : IntKind} {a : Int} {s : SInt} (h0 : 0 ≤ a) (h1 : a ≤ kMax k) (e : s.val ν = a) : SymOk P ν .or k 0 a (.int k s) := by
  refine .int (n := a) ?_ e
  simp only [intF, bitsB]
  rw [forceI_eq]
  have e1 : (BitVec.ofInt k.bits 0 ||| BitVec.ofInt k.bits a).toNat = a.toNat := by
    rw [show BitVec.ofInt k.bits 0 = 0#k.bits from by simp, BitVec.zero_or, BitVec.toNat_ofInt]
    rw [Int.emod_eq_of_lt h0]
    cases k <;> simp only [kMax] at h1 <;> simp [IntKind.bits] <;> omega
  rw [e1, Int.toNat_of_nonneg h0, wrap_in (by cases k <;> simp only [kMin] <;> omega) h1]

theorem rLit_ok {ν : Nat → Int} {l : List Rg} (hl : RgOk ν l) {op : BinOp} {k : IntKind} {x : SInt} {b : Int} {v : SV} (h : rLit l op k x b = some v) : SymOk P ν op k (x.val ν) b v := by
  unfold rLit at h
  obtain ⟨lo, hi, h, h1, h2⟩ := findG_ok hl h
  split at h
  · cases h
  rename_i g
  obtain ⟨w1, w2, w3⟩ := inK_ok g h1 h2
  split at h
  · cases h
  rename_i g0
  rw [leI_eq] at g0
  have g0 : (0 : Int) ≤ lo := of_decide_eq_true g0
  split at h
  · split at h
    · rename_i e; rw [eqI_ok e]; cases h; exact symAdd (by rw [Int.add_zero, w1])
    · cases h
  · split at h
    · rename_i e; rw [eqI_ok e]; cases h; exact symSub (by rw [Int.sub_zero, w1])
    · cases h
  · split at h
    · rename_i e; rw [eqI_ok e]; cases h; exact symOr0 (by omega) w3 rfl
    · cases h
  · split at h
    · rename_i e
      rw [ltI_eq] at e
      have e : hi < b := of_decide_eq_true e
      cases h
      exact symRem (by omega) (Int.tmod_eq_of_lt (by omega) (by omega)).symm
    · cases h
  · split at h
    · rename_i e
      rw [eqI_ok e]
      cases h
      exact symQuo (by decide) (by rw [Int.tdiv_one, w1])
    · split at h
      · rename_i e
        rw [ltI_eq] at e
        have e : hi < b := of_decide_eq_true e
        cases h
        refine symQuo (by omega) ?_
        rw [Int.tdiv_eq_zero_of_lt (by omega) (by omega)]
        show (0 : Int) = _
        cases k <;> rfl
      · cases h
  · cases h
theorem rShift_ok {ν : Nat → Int} {l : List Rg} (hl : RgOk ν l) {op : BinOp} {k j : IntKind} {x : SInt} {b : Int} {v : SV} (h : rShift l op k x b = some v) : SymAt P ν op k (x.val ν) j b v := by
  unfold rShift at h
  have h0 := findG_ok hl h; clear h; obtain ⟨lo, hi, h, h1, h2⟩ := h0
  split at h
  · cases h
  rename_i g
  obtain ⟨w1, w2, w3⟩ := inK_ok g h1 h2
  split at h
  · cases h
  rename_i g0
  rw [leI_eq] at g0
  have g0 : (0 : Int) ≤ lo := of_decide_eq_true g0
  have sh : ∀ {op : BinOp} {n : Int} {s : SInt}, (shiftF op).run k (x.val ν) b (fun v => .ok (v, ⟨.leaf, 0⟩)) = .ok (.int k (.lit n), ⟨.leaf, 0⟩) → s.val ν = n → SymAt P ν op k (x.val ν) j b (.int k s) := by
    intro op n s hr e
    obtain ⟨v, e1, V, e2, e3⟩ := shiftF_ok (P := P) (ν := ν) (jk := j) hr
    simp only [Res.ok.injEq, Prod.mk.injEq, and_true] at e1
    subst e1
    exact ⟨V, fun w => e2 0 w, fun σ => by have := e3 σ; simp only [Rep] at this ⊢; rw [this, e]; rfl⟩
  split at h
  · rename_i e
    have e := eqI_ok e
    subst e
    have hs : ∀ {op : BinOp}, (op = .shl ∨ op = .shr) → SymAt P ν op k (x.val ν) j 0 (.int k x) := by
      rintro op (rfl | rfl)
      · refine sh (n := x.val ν) ?_ rfl
        simp only [shiftF, ltI_eq]
        rw [show decide ((0 : Int) < 0) = false from rfl]
        dsimp only
        rw [forceI_eq]
        simp [w1]
      · refine sh (n := x.val ν) ?_ rfl
        simp only [shiftF, ltI_eq]
        rw [show decide ((0 : Int) < 0) = false from rfl]
        dsimp only
        rw [forceI_eq]
        simp
    cases op <;> dsimp only at h <;> first | (cases h; done) | skip
    · rw [← Option.some.inj h]; exact hs (.inl rfl)
    · rw [← Option.some.inj h]; exact hs (.inr rfl)
  · cases op <;> dsimp only at h <;> first | (cases h; done) | skip
    split at h
    · rename_i e
      rw [leI_eq] at e
      have e : (8 : Int) ≤ b := of_decide_eq_true e
      split at h
      · rename_i e2
        rw [ltI_eq] at e2
        have e2 : hi < 256 := of_decide_eq_true e2
        rw [← Option.some.inj h]
        refine sh (n := 0) ?_ rfl
        simp only [shiftF, ltI_eq]
        rw [decide_eq_false (by omega)]
        dsimp only
        rw [forceI_eq]
        have hk : 8 ≤ min b.toNat k.bits := by
          have : 8 ≤ k.bits := by cases k <;> decide
          omega
        have hz : (x.val ν).fdiv (2 ^ min b.toNat k.bits) = 0 := by
          generalize min b.toNat k.bits = q at hk
          have hp : (256 : Int) ≤ 2 ^ q := by
            have h3 : ((2 ^ 8 : Nat) : Int) ≤ ((2 ^ q : Nat) : Int) := Int.ofNat_le.2 (Nat.pow_le_pow_right (n := 2) (by decide) hk)
            rw [Int.natCast_pow] at h3
            exact h3
          rw [Int.fdiv_eq_ediv_of_nonneg _ (by omega)]
          exact Int.ediv_eq_zero_of_lt (by omega) (by omega)
        rw [hz]
      · cases h
    · cases h
theorem litR_ok {ν : Nat → Int} {l : List Rg} (hl : RgOk ν l) {op : BinOp} {k : IntKind} {x : SInt} {b : Int} {v : SV} (h : litR l op k b x = some v) : SymOk P ν op k b (x.val ν) v := by
  unfold litR at h
  obtain ⟨lo, hi, h, h1, h2⟩ := findG_ok hl h
  split at h
  · cases h
  rename_i g
  obtain ⟨w1, w2, w3⟩ := inK_ok g h1 h2
  split at h
  · rename_i e
    rw [eqI_ok e]
    split at h
    · cases h; exact symAdd (by rw [Int.zero_add, w1])
    · split at h
      · rename_i g0
        rw [leI_eq] at g0
        have g0 : (0 : Int) ≤ lo := of_decide_eq_true g0
        cases h
        exact sym0Or (by omega) w3 rfl
      · cases h
    · cases h
  · cases h
/-- the log's lengths -/
structure LogN (ν : Nat → Int) : Prop where
  log : ∀ j, j < 100 → ν (5000 + j) = ν 5000 + j
  log1 : 1 ≤ ν 5000
  log2 : ν 5000 ≤ 3000
theorem blt_ok {a b : Nat} (h : Nat.blt a b = true) : a < b := Nat.le_of_ble_eq_true h
theorem logSub_ok {ν : Nat → Int} (h : LogN ν) {op : BinOp} {x y : SInt} {v : SV} (e : logSub op .i64 x y = some v) : SymOk P ν op .i64 (x.val ν) (y.val ν) v := by
  have h1 := h.log1
  have h2 := h.log2
  cases x with
  | lit n => cases e
  | atom i =>
    cases y with
    | atom j =>
      cases op <;> dsimp only [logSub] at e <;> first | (cases e; done) | skip
      split at e
      case h_2 => cases e
      rename_i g1
      have g1 := Nat.le_of_ble_eq_true g1
      split at e
      case h_2 => cases e
      rename_i g2
      have g2 := Nat.le_of_ble_eq_true g2
      split at e
      case h_2 => cases e
      rename_i g3
      have g3 := blt_ok g3
      cases e
      have e1 := h.log (i - 5000) (by omega)
      have e2 := h.log (j - 5000) (by omega)
      rw [show 5000 + (i - 5000) = i by omega] at e1
      rw [show 5000 + (j - 5000) = j by omega] at e2
      refine symSub ?_
      show ((i - j : Nat) : Int) = IntKind.wrap .i64 (ν i - ν j)
      rw [wrap_in (by simp only [kMin]; omega) (by simp only [kMax]; omega)]
      omega
    | lit b =>
      cases op <;> dsimp only [logSub] at e <;> first | (cases e; done) | skip
      split at e
      case h_2 => cases e
      rename_i g1
      have g1 := Nat.le_of_ble_eq_true g1
      split at e
      case h_2 => cases e
      rename_i g3
      have g3 := blt_ok g3
      split at e
      case h_2 => cases e
      split at e
      case h_2 => cases e
      rename_i n g4
      have g4 := Nat.eq_of_beq_eq_true g4
      subst g4
      cases e
      have e1 := h.log (i - 5000) (by omega)
      rw [show 5000 + (i - 5000) = i by omega] at e1
      exact symEql (by symm; rw [decide_eq_false_iff_not]; show ¬ ν i = (4096 : Int); omega)
theorem rSym_ok {ν : Nat → Int} {l : List Rl} {g : List Rg} (hl : ∀ r ∈ l, RlOk P ν r) (hg : RgOk ν g) (hn : LogN ν) {op : BinOp} {k : IntKind} {x : SInt} {j : IntKind} {y : SInt} {v : SV} (h : rSym l g op k x j y = some v) : SymAt P ν op k (x.val ν) j (y.val ν) v := by
  unfold rSym at h
  split at h
  · rename_i e; cases h; exact findR_ok hl e
  · split at h
    · split at h
      · exact rShift_ok hg h
      · cases h
    · split at h
      case h_2 => cases h
      rename_i e
      have e := eqK2_ok e
      subst e
      split at h
      · rename_i e
        cases h
        split at e
        · rename_i g; rw [sameSI_ok g]; exact rSame_ok e
        · exact rCmp_ok hg e
      · split at h
        · split at h
          · rename_i e; cases h; exact rLit_ok hg e
          · split at h
            · exact logSub_ok hn h
            · cases h
        · split at h
          · exact litR_ok hg h
          · split at h
            · exact logSub_ok hn h
            · cases h
theorem rLog_ok {ν : Nat → Int} (h : LogN ν) {a j b : Nat} (e : rLog a j = some b) : ν b = ν a + j ∧ 1 ≤ ν a ∧ ν b ≤ 4096 := by
  unfold rLog at e
  split at e
  · rename_i g1
    have g1 := Nat.le_of_ble_eq_true g1
    split at e
    · rename_i g2
      have g2 := blt_ok g2
      cases e
      have e1 := h.log (a - 5000) (by omega)
      have e2 := h.log (a + j - 5000) (by omega)
      have h1 := h.log1
      have h2 := h.log2
      rw [show 5000 + (a - 5000) = a by omega] at e1
      rw [show 5000 + (a + j - 5000) = a + j by omega] at e2
      exact ⟨by omega, by omega, by omega⟩
    · cases e
  · cases e
def CvOk (ν : Nat → Int) (c : Cv) : Prop := c.y.val ν = c.k.wrap (ν c.x)
theorem rConv_ok {ν : Nat → Int} {l : List Cv} {g : List Rg} (hl : ∀ c ∈ l, CvOk ν c) (hg : RgOk ν g) {k j : IntKind} {x : SInt} {v : SV} (h : rConv l g k j x = some v) : ∀ σ, Rep ν σ v (.int k (k.wrap (x.val ν))) := by
  intro σ
  unfold rConv at h
  split at h
  · rename_i e
    cases h
    clear hg
    induction l with
    | nil => cases e
    | cons c l ih =>
      simp only [findC] at e
      split at e
      · cases e
      · obtain ⟨k', j', a, b⟩ := c
        dsimp only at e
        split at e
        · rename_i g1
          have g1 := Nat.eq_of_beq_eq_true g1
          split at e
          · rename_i g2
            split at e
            · rename_i g3
              cases e
              have hc := hl _ (.head _)
              have e2 := eqK2_ok g2
              subst e2
              subst g1
              simp only [CvOk] at hc
              simp only [Rep, SInt.val] at hc ⊢
              rw [hc]
            · exact ih (fun c hc => hl c (.tail _ hc)) e
          · exact ih (fun c hc => hl c (.tail _ hc)) e
        · exact ih (fun c hc => hl c (.tail _ hc)) e
  · obtain ⟨lo, hi, h, h1, h2⟩ := findG_ok hg h
    split at h
    · rename_i e
      cases h
      obtain ⟨w1, _, _⟩ := inK_ok e h1 h2
      simp only [Rep]
      rw [w1]
    · cases h
theorem eokP {ν : Nat → Int} {l : List Rl} {g : List Rg} {c : List Cv} (hl : ∀ r ∈ l, RlOk Tryz.prog ν r) (hg : RgOk ν g) (hn : LogN ν) (hc : ∀ x ∈ c, CvOk ν x) {glob : Nat → Option (List SV)} {intr : FuncId → Option IX} : EOk Tryz.prog ⟨tyT, fnT, glob, intr, rSym l g, rConv c g, simpleF, rLog⟩ ν :=
  eok (fun _ _ _ _ _ _ e => rSym_ok hl hg hn e) (fun _ _ _ _ e => rConv_ok hc hg e) (fun _ _ _ e => rLog_ok hn e)
end Go.Ev
