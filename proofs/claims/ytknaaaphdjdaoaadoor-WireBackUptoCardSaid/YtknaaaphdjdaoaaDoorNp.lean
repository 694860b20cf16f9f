/-
  Numbers in groups of seven bits. No walk in sight.
-/
import Derived.Test.YtknaaaphdjdaoaaDoorB0
import Derived.Laws.Bits64
import Derived.Laws.BitsLemmas
namespace Go.Proofs.YtknaaaphdjdaoaaDoor
open Go.RowKit Mem
set_option linter.unusedVariables false
set_option linter.unusedSimpArgs false

/-- A number that is read: from its k-th group on, with what was before. -/
def gnF : Nat → Nat → Bs → Nat × Nat
  | _, _, [] => (0, 0)
  | k, acc, b :: r => if 10 ≤ k then (0, 0) else if (k = 9 ∧ 1 < b.toNat) ∨ (0 < k ∧ b.toNat = 0) then (0, 0) else if b.toNat < 128 then (acc + b.toNat * 128 ^ k, k + 1) else gnF (k + 1) (acc + b.toNat % 128 * 128 ^ k) r
def gn (l : Bs) : Nat × Nat := gnF 0 0 l
theorem gnF_ten (acc : Nat) (l : Bs) : gnF 10 acc l = (0, 0) := by cases l <;> simp [gnF]
theorem pow7 (k : Nat) : (2 : Nat) ^ (7 * k) = 128 ^ k := by rw [Nat.pow_mul]
theorem and127 (b : Nat) (h : b < 256) : Go.bits .and .u8 (b : Int) 127 = ((b % 128 : Nat) : Int) := by
  unfold Go.bits
  simp only [BitVec.toNat_and]
  have e1 : (BitVec.ofInt (IntKind.bits .u8) (b : Int)).toNat = b := by
    show (BitVec.ofInt 8 (b : Int)).toNat = b
    rw [BitVec.ofInt_natCast, BitVec.toNat_ofNat]
    exact Nat.mod_eq_of_lt (by omega)
  have e2 : (BitVec.ofInt (IntKind.bits .u8) 127).toNat = 127 := by decide
  rw [e1, e2, show (127 : Nat) = 2 ^ 7 - 1 from rfl, Nat.and_two_pow_sub_one_eq_mod, IntKind.wrap_u8]
  omega
theorem or64 (a c k : Nat) (ha : a < 128 ^ k) (hc : a + c * 128 ^ k < 18446744073709551616) : Go.bits .or .u64 (a : Int) ((c * 128 ^ k : Nat) : Int) = ((a + c * 128 ^ k : Nat) : Int) := by
  unfold Go.bits
  simp only [BitVec.toNat_or]
  have e1 : ∀ x : Nat, x < 18446744073709551616 → (BitVec.ofInt (IntKind.bits .u64) (x : Int)).toNat = x := by
    intro x hx
    show (BitVec.ofInt 64 (x : Int)).toNat = x
    rw [BitVec.ofInt_natCast, BitVec.toNat_ofNat]
    exact Nat.mod_eq_of_lt hx
  rw [e1 a (by omega), e1 _ (by omega)]
  have e3 : a ||| c * 128 ^ k = a + c * 128 ^ k := by
    rw [← pow7] at ha ⊢
    rw [Nat.or_comm, Nat.mul_comm, ← Nat.two_pow_add_eq_or_of_lt ha, Nat.add_comm]
  rw [e3, IntKind.wrap_u64]
  omega
theorem pow_nine (k : Nat) (h : k ≤ 8) : 128 ^ k ≤ 72057594037927936 := by
  have : (128 : Nat) ^ k ≤ 128 ^ 8 := Nat.pow_le_pow_right (by omega) h
  exact this
theorem share (a b k : Nat) (hb : b < 256) (ha : a < 128 ^ k) (hk : k ≤ 8 ∨ (k = 9 ∧ b ≤ 1)) : a + b % 128 * 128 ^ k < 18446744073709551616 ∧ (k ≤ 8 → a + b % 128 * 128 ^ k < 128 ^ (k + 1)) := by
  have h1 : b % 128 * 128 ^ k ≤ 127 * 128 ^ k := Nat.mul_le_mul_right _ (by omega)
  have e : 128 ^ (k + 1) = 128 * 128 ^ k := by rw [Nat.pow_succ, Nat.mul_comm]
  rcases hk with hk | ⟨rfl, hb1⟩
  · have h2 := pow_nine k hk
    rw [e]
    omega
  · have h3 : (128 : Nat) ^ 9 = 9223372036854775808 := by decide
    rw [h3] at ha ⊢
    refine ⟨?_, fun h => by omega⟩
    have : b = 0 ∨ b = 1 := by omega
    rcases this with rfl | rfl <;> omega
/-- What the walk makes of a group. -/
theorem or_step (a b k : Nat) (hb : b < 256) (ha : a < 128 ^ k) (hk : k ≤ 8 ∨ (k = 9 ∧ b ≤ 1)) :
    Go.bits .or .u64 (a : Int) (IntKind.u64.wrap (IntKind.u64.wrap (Go.bits .and .u8 (b : Int) 127) * 2 ^ (7 * k))) = ((a + b % 128 * 128 ^ k : Nat) : Int) := by
  have hs := (share a b k hb ha hk).1
  have e : (2 : Int) ^ (7 * k) = ((128 ^ k : Nat) : Int) := by rw [← pow7]; push_cast; rfl
  rw [and127 b hb, IntKind.wrap_u64, IntKind.wrap_u64, e]
  have e2 : ((b % 128 : Nat) : Int) % 18446744073709551616 = ((b % 128 : Nat) : Int) := by omega
  rw [e2, ← Int.natCast_mul]
  have e3 : ((b % 128 * 128 ^ k : Nat) : Int) % 18446744073709551616 = ((b % 128 * 128 ^ k : Nat) : Int) := by omega
  rw [e3]
  exact or64 a (b % 128) k ha hs
/-- What the document's walk makes of a group. -/
theorem or_step2 (a b k : Nat) (hb : b < 256) (ha : a < 128 ^ k) (hk : k ≤ 8 ∨ (k = 9 ∧ b ≤ 1)) :
    Go.bits .or .u64 (a : Int) (IntKind.u64.wrap (((b % 128 : Nat) : Int) * 2 ^ (7 * k))) = ((a + b % 128 * 128 ^ k : Nat) : Int) := by
  have hs := (share a b k hb ha hk).1
  have e : (2 : Int) ^ (7 * k) = ((128 ^ k : Nat) : Int) := by rw [← pow7]; push_cast; rfl
  rw [e, ← Int.natCast_mul, IntKind.wrap_u64]
  have e3 : ((b % 128 * 128 ^ k : Nat) : Int) % 18446744073709551616 = ((b % 128 * 128 ^ k : Nat) : Int) := by omega
  rw [e3]
  exact or64 a (b % 128) k ha hs
theorem or_c (a C k : Nat) (hC : C < 128) (ha : a < 128 ^ k) (hk : k ≤ 8 ∨ (k = 9 ∧ C ≤ 1)) :
    Go.bits .or .u64 (a : Int) (IntKind.u64.wrap ((C : Int) * 2 ^ (7 * k))) = ((a + C * 128 ^ k : Nat) : Int) ∧ a + C * 128 ^ k < 128 ^ (k + 1) := by
  have hm : C % 128 = C := Nat.mod_eq_of_lt hC
  have e : 128 ^ (k + 1) = 128 * 128 ^ k := by rw [Nat.pow_succ, Nat.mul_comm]
  have h1 : C * 128 ^ k ≤ 127 * 128 ^ k := Nat.mul_le_mul_right _ (by omega)
  have := or_step2 a C k (by omega) ha hk
  rw [hm] at this
  exact ⟨this, by rw [e]; omega⟩
/-- A number that is written. -/
def pnF : Nat → Nat → Bs
  | 0, n => [n.toUInt8]
  | f + 1, n => if n < 128 then [n.toUInt8] else (n % 128 + 128).toUInt8 :: pnF f (n / 128)
def pn (n : Nat) : Bs := pnF 10 n
end Go.Proofs.YtknaaaphdjdaoaaDoor
