/- Plain mathematics: math/bits.OnesCount64 counts the set bits. -/
import Derived.Test.YtefippjakkgjkaaDoorMaskM
namespace Go.Proofs.YtefippjakkgjkaaDoor

/-- How many of the lowest n bits are set. -/
def popc : Nat → Nat → Nat
  | 0, _ => 0
  | n + 1, x => x % 2 + popc n (x / 2)
/-- The number whose n bytes are all c. -/
def rep (c : Nat) : Nat → Nat
  | 0 => 0
  | n + 1 => 256 * rep c n + c
def swar1 (n x : Nat) : Nat := (x / 2 &&& rep 0x55 n) + (x &&& rep 0x55 n)
def swar2 (n x : Nat) : Nat := (x / 4 &&& rep 0x33 n) + (x &&& rep 0x33 n)
def swar3 (n x : Nat) : Nat := (x / 16 + x) &&& rep 0x0f n

theorem and_bytes (q d r c : Nat) (hr : r < 256) (hc : c < 256) : (256 * q + r) &&& (256 * d + c) = 256 * (q &&& d) + (r &&& c) := by
  apply Nat.eq_of_testBit_eq
  intro i
  have hrc : r &&& c < 2 ^ 8 := Nat.lt_of_le_of_lt Nat.and_le_left (by omega)
  rw [Nat.testBit_and, show (256 : Nat) = 2 ^ 8 from rfl, Nat.testBit_two_pow_mul_add _ (by omega), Nat.testBit_two_pow_mul_add _ (by omega), Nat.testBit_two_pow_mul_add _ hrc]
  by_cases h : i < 8 <;> simp [h]
theorem byte1 : ∀ b, b < 2 → ∀ r, r < 128 → (128 * b + r) &&& 0x55 = r &&& 0x55 := by decide +kernel
theorem byte2 : ∀ b, b < 4 → ∀ r, r < 64 → (64 * b + r) &&& 0x33 = r &&& 0x33 := by decide +kernel
theorem byte3 : ∀ v, v < 256 → v &&& 0x0f = v % 16 := by decide +kernel
theorem swar1_step (n q r : Nat) (hr : r < 256) : swar1 (n + 1) (256 * q + r) = 256 * swar1 n q + ((r / 2 &&& 0x55) + (r &&& 0x55)) := by
  unfold swar1
  have e : (256 * q + r) / 2 = 256 * (q / 2) + (128 * (q % 2) + r / 2) := by omega
  rw [e, rep, and_bytes _ _ _ _ (by omega) (by omega), and_bytes _ _ _ _ hr (by omega), byte1 _ (by omega) _ (by omega)]
  omega
theorem swar2_step (n q r : Nat) (hr : r < 256) : swar2 (n + 1) (256 * q + r) = 256 * swar2 n q + ((r / 4 &&& 0x33) + (r &&& 0x33)) := by
  unfold swar2
  have e : (256 * q + r) / 4 = 256 * (q / 4) + (64 * (q % 4) + r / 4) := by omega
  rw [e, rep, and_bytes _ _ _ _ (by omega) (by omega), and_bytes _ _ _ _ hr (by omega), byte2 _ (by omega) _ (by omega)]
  omega
theorem swar3_step (n q r : Nat) (hr : r % 16 ≤ 4) (hr' : r / 16 ≤ 4) (hq : q % 16 ≤ 4) : swar3 (n + 1) (256 * q + r) = 256 * swar3 n q + (r / 16 + r % 16) := by
  unfold swar3
  have e : (256 * q + r) / 16 + (256 * q + r) = 256 * (q / 16 + q) + (16 * (q % 16) + r / 16 + r) := by omega
  rw [e, rep, and_bytes _ _ _ _ (by omega) (by omega), byte3 _ (by omega)]
  omega
/-- One byte through the first two steps. -/
def b2 (r : Nat) : Nat := let s := (r / 2 &&& 0x55) + (r &&& 0x55); (s / 4 &&& 0x33) + (s &&& 0x33)
theorem b1_lt : ∀ r, r < 256 → (r / 2 &&& 0x55) + (r &&& 0x55) < 256 := by decide +kernel
theorem b2_nibbles : ∀ r, r < 256 → b2 r < 256 ∧ b2 r % 16 ≤ 4 ∧ b2 r / 16 ≤ 4 ∧ b2 r / 16 + b2 r % 16 = popc 8 r := by decide +kernel
def swar12 (n x : Nat) : Nat := swar2 n (swar1 n x)
theorem swar12_step (n q r : Nat) (hr : r < 256) : swar12 (n + 1) (256 * q + r) = 256 * swar12 n q + b2 r := by
  unfold swar12
  rw [swar1_step n q r hr, swar2_step n _ _ (b1_lt r hr)]
  rfl
theorem swar12_low (n q : Nat) (hq : q < 256 ^ n) : swar12 n q % 16 ≤ 4 := by
  cases n with
  | zero => simp at hq; subst hq; decide
  | succ n =>
    have e : q = 256 * (q / 256) + q % 256 := by omega
    rw [e, swar12_step n _ _ (by omega)]
    have := b2_nibbles (q % 256) (by omega)
    omega
/-- The bytes' counts, the lowest byte first. -/
def counts : Nat → Nat → List Nat
  | 0, _ => []
  | n + 1, x => popc 8 (x % 256) :: counts n (x / 256)
def pack : List Nat → Nat
  | [] => 0
  | c :: l => 256 * pack l + c
theorem swar123 : ∀ (n x : Nat), x < 256 ^ n → swar3 n (swar12 n x) = pack (counts n x)
  | 0, x, h => by simp at h; subst h; decide
  | n + 1, x, h => by
    have e : x = 256 * (x / 256) + x % 256 := by omega
    have hq : x / 256 < 256 ^ n := by rw [Nat.pow_succ] at h; omega
    have b := b2_nibbles (x % 256) (by omega)
    conv => lhs; rw [e]
    rw [swar12_step n _ _ (by omega), swar3_step n _ _ b.2.1 b.2.2.1 (swar12_low n _ hq), swar123 n _ hq, counts, pack, b.2.2.2]
theorem popc_le : ∀ n x, popc n x ≤ n
  | 0, _ => Nat.le_refl _
  | n + 1, x => by have := popc_le n (x / 2); unfold popc; omega
theorem popc_add : ∀ (a b x : Nat), popc (a + b) x = popc a x + popc b (x / 2 ^ a)
  | 0, b, x => by simp [popc]
  | a + 1, b, x => by
    rw [show a + 1 + b = (a + b) + 1 by omega, popc, popc_add a b (x / 2), popc, Nat.div_div_eq_div_mul, Nat.pow_succ, Nat.mul_comm (2 ^ a)]
    omega
theorem popc_mod : ∀ (a k x : Nat), a ≤ k → popc a (x % 2 ^ k) = popc a x
  | 0, _, _, _ => rfl
  | a + 1, k, x, h => by
    obtain ⟨k, rfl⟩ : ∃ j, k = j + 1 := ⟨k - 1, by omega⟩
    rw [popc, popc, Nat.pow_succ, Nat.mul_comm, ← popc_mod a k (x / 2) (by omega), Nat.mod_mul_right_div_self, Nat.mod_mul_right_mod]
theorem counts_sum : ∀ (n x : Nat), (counts n x).sum = popc (8 * n) x
  | 0, _ => rfl
  | n + 1, x => by
    rw [counts, List.sum_cons, counts_sum n, show 8 * (n + 1) = 8 + 8 * n by omega, popc_add]
    congr 1
    exact popc_mod 8 8 x (Nat.le_refl _)
theorem popc_filter : ∀ (n k x : Nat), popc n (x / 2 ^ k) = ((List.range' k n).filter (x.testBit ·)).length
  | 0, _, _ => rfl
  | n + 1, k, x => by
    rw [popc, List.range'_succ, List.filter_cons, Nat.div_div_eq_div_mul, ← Nat.pow_succ, popc_filter n (k + 1) x]
    have : x.testBit k = decide (x / 2 ^ k % 2 = 1) := Nat.testBit_eq_decide_div_mod_eq ..
    rw [this]
    by_cases h : x / 2 ^ k % 2 = 1
    · simp [h]; omega
    · simp [h]; omega
theorem lenN_popc (m : Nat) : lenN m = popc 64 m := by
  have h := popc_filter 64 0 m
  rw [Nat.pow_zero, Nat.div_one] at h
  rw [h, lenN, listN, List.range_eq_range']
theorem div256 (q r : Nat) (h : r < 256) : (256 * q + r) / 256 = q := by omega
theorem lvlAdd (y z a b c d : Nat) (h : y = 256 * a + c) (k : z = 256 * b + d) : y + z = 256 * (a + b) + (c + d) := by omega
theorem lvlLe (y a c B : Nat) (h : y = 256 * a + c) (ha : a ≤ B) (hc : c ≤ 8) : y ≤ 256 * B + 8 := by omega
theorem sum2 (a b : Nat) (ha : a ≤ 8) (hb : b ≤ 8) : a + b < 256 := by omega
theorem sum4 (a b c d : Nat) (ha : a ≤ 8) (hb : b ≤ 8) (hc : c ≤ 8) (hd : d ≤ 8) : a + b + (c + d) < 256 := by omega
theorem div65536 (a q s r r' : Nat) (h1 : a = 256 * s + r) (h2 : r < 256) (h3 : s = 256 * q + r') (h4 : r' < 256) : a / 65536 = q := by
  rw [show (65536 : Nat) = 256 * 256 from rfl, ← Nat.div_div_eq_div_mul, h1, div256 _ _ h2, h3, div256 _ _ h4]
theorem swar_fin (f g p q s t x : Nat) (hf : f = 256 * p + s) (hg : g = 256 * q + t) (h : s + t = x) (hx : x ≤ 64) : (f + g) % 128 = x := by omega
theorem bounds_fin (x y1 y2 y3 y4 y5 y6 c7 : Nat) (b0 : x ≤ 578721382704613384) (b1 : y1 ≤ 2260630401189896) (b2 : y2 ≤ 8830587504648) (b3 : y3 ≤ 34494482440) (b4 : y4 ≤ 134744072) (b5 : y5 ≤ 526344) (b6 : y6 ≤ 2056) (b7 : c7 ≤ 8) :
    x + y1 < 18446744073709551616 ∧ x + y1 + (y2 + y3) < 18446744073709551616 ∧ x + y1 + (y2 + y3) + (y4 + y5 + (y6 + c7)) < 9223372036854775808 := by
  refine ⟨?_, ?_, ?_⟩ <;> omega
/-- The last steps: 'x += x >> 8; x += x >> 16; x += x >> 32; x & 127'. -/
theorem swar_end (x : Nat) (c0 c1 c2 c3 c4 c5 c6 c7 : Nat) (h0 : c0 ≤ 8) (h1 : c1 ≤ 8) (h2 : c2 ≤ 8) (h3 : c3 ≤ 8) (h4 : c4 ≤ 8) (h5 : c5 ≤ 8) (h6 : c6 ≤ 8) (h7 : c7 ≤ 8)
    (hx : x = pack [c0, c1, c2, c3, c4, c5, c6, c7]) : ∃ a b c : Nat, a = x + x / 256 ∧ b = a + a / 65536 ∧ c = b + b / 4294967296 ∧
    a < 18446744073709551616 ∧ b < 18446744073709551616 ∧ c < 9223372036854775808 ∧ c % 128 = c0 + c1 + (c2 + c3) + (c4 + c5 + (c6 + c7)) := by
  obtain ⟨y6, e6⟩ : ∃ y, y = 256 * c7 + c6 := ⟨_, rfl⟩
  obtain ⟨y5, e5⟩ : ∃ y, y = 256 * y6 + c5 := ⟨_, rfl⟩
  obtain ⟨y4, e4⟩ : ∃ y, y = 256 * y5 + c4 := ⟨_, rfl⟩
  obtain ⟨y3, e3⟩ : ∃ y, y = 256 * y4 + c3 := ⟨_, rfl⟩
  obtain ⟨y2, e2⟩ : ∃ y, y = 256 * y3 + c2 := ⟨_, rfl⟩
  obtain ⟨y1, e1⟩ : ∃ y, y = 256 * y2 + c1 := ⟨_, rfl⟩
  have e0 : x = 256 * y1 + c0 := by rw [hx, e1, e2, e3, e4, e5, e6]; simp only [pack, Nat.mul_zero, Nat.zero_add]
  clear hx
  have b6 : y6 ≤ 2056 := lvlLe _ _ _ 8 e6 h7 h6
  have b5 : y5 ≤ 526344 := lvlLe _ _ _ 2056 e5 b6 h5
  have b4 : y4 ≤ 134744072 := lvlLe _ _ _ 526344 e4 b5 h4
  have b3 : y3 ≤ 34494482440 := lvlLe _ _ _ 134744072 e3 b4 h3
  have b2 : y2 ≤ 8830587504648 := lvlLe _ _ _ 34494482440 e2 b3 h2
  have b1 : y1 ≤ 2260630401189896 := lvlLe _ _ _ 8830587504648 e1 b2 h1
  have b0 : x ≤ 578721382704613384 := lvlLe _ _ _ 2260630401189896 e0 b1 h0
  have e7 : c7 = 256 * 0 + c7 := by rw [Nat.mul_zero, Nat.zero_add]
  have d0 : x / 256 = y1 := by rw [e0]; exact div256 _ _ (Nat.lt_of_le_of_lt h0 (by decide))
  have a0 := lvlAdd _ _ _ _ _ _ e0 e1
  have a1 := lvlAdd _ _ _ _ _ _ e1 e2
  have a2 := lvlAdd _ _ _ _ _ _ e2 e3
  have a3 := lvlAdd _ _ _ _ _ _ e3 e4
  have a4 := lvlAdd _ _ _ _ _ _ e4 e5
  have a5 := lvlAdd _ _ _ _ _ _ e5 e6
  have a6 := lvlAdd _ _ _ _ _ _ e6 e7
  have d1 : (x + y1) / 65536 = y2 + y3 := div65536 _ _ _ _ _ a0 (sum2 _ _ h0 h1) a1 (sum2 _ _ h1 h2)
  have f0 := lvlAdd _ _ _ _ _ _ a0 a2
  have f1 := lvlAdd _ _ _ _ _ _ a1 a3
  have f2 := lvlAdd _ _ _ _ _ _ a2 a4
  have f3 := lvlAdd _ _ _ _ _ _ a3 a5
  have f4 := lvlAdd _ _ _ _ _ _ a4 a6
  have d2 : (x + y1 + (y2 + y3)) / 4294967296 = y4 + y5 + (y6 + c7) := by
    rw [show (4294967296 : Nat) = 65536 * 65536 from rfl, ← Nat.div_div_eq_div_mul]
    have : (x + y1 + (y2 + y3)) / 65536 = y2 + y3 + (y4 + y5) := div65536 _ _ _ _ _ f0 (sum4 _ _ _ _ h0 h1 h2 h3) f1 (sum4 _ _ _ _ h1 h2 h3 h4)
    rw [this]
    exact div65536 _ _ _ _ _ f2 (sum4 _ _ _ _ h2 h3 h4 h5) f3 (sum4 _ _ _ _ h3 h4 h5 h6)
  obtain ⟨g1, g2, g3⟩ := bounds_fin x y1 y2 y3 y4 y5 y6 c7 b0 b1 b2 b3 b4 b5 b6 h7
  refine ⟨x + y1, x + y1 + (y2 + y3), x + y1 + (y2 + y3) + (y4 + y5 + (y6 + c7)), by rw [d0], by rw [d1], by rw [d2], g1, g2, g3, ?_⟩
  refine swar_fin _ _ _ _ _ _ _ f0 f4 rfl ?_
  clear f0 f1 f2 f3 f4 a0 a1 a2 a3 a4 a5 a6 d0 d1 d2 g1 g2 g3 b0 b1 b2 b3 b4 b5 b6 e0 e1 e2 e3 e4 e5 e6 e7
  omega
end Go.Proofs.YtefippjakkgjkaaDoor
