/-
  What the laws make of plain disks. No memory in sight.
-/
import Derived.Test.YtoceddcppbddnaaDo
namespace Go.Proofs.Ytoceddcppbddnaa
set_option linter.unusedVariables false
set_option linter.unusedSimpArgs false

theorem deed_plain0 {A : Ab} {f : Ab → Ab} (h : A.fuse = none) : deedA A f = (f A, 0) := by
  unfold deedA blowsA tickA
  rw [h]
theorem append_ok {A : Ab} {n b : Bs} (ho : A.off = false) (hn : nmA n = true) (hr : (b.length : Int) ≤ A.room - (usedA A : Int)) : appendA A n b = deedA (withFs A (putA A.fs n b)) (fun A => A) := by
  unfold appendA
  rw [ho, if_neg (by decide), if_neg (by rw [hn]; decide), if_neg (by omega)]
/-- The disk that the laws make. -/
def big (fs : List Fl) : Ab := ⟨1099511627776, fs, false, none, 0⟩
theorem big_append {fs : List Fl} {n b : Bs} (hn : nmA n = true) (h : totA fs + b.length ≤ 1000000) : appendA (big fs) n b = (big (putA fs n b), 0) := by
  rw [append_ok rfl hn, deed_plain0 rfl]
  · rfl
  · show (b.length : Int) ≤ 1099511627776 - ((totA fs : Nat) : Int)
    omega
theorem getA_cons_self (n b : Bs) (k : Nat) (r : List Fl) : getA ((n, b, k) :: r) n = some (b, k) := by simp [getA]
theorem getA_cons_ne {m n : Bs} (b : Bs) (k : Nat) (r : List Fl) (h : m ≠ n) : getA ((m, b, k) :: r) n = getA r n := by
  have : (m == n) = false := beq_eq_false_iff_ne.2 h
  simp [getA, this]
theorem getA_nil (n : Bs) : getA [] n = none := rfl
abbrev nf : Bs := [102]
abbrev ng : Bs := [103]
abbrev nn_ : Bs := [110]
/-! ### DiskKeeps -/
theorem keeps1 {one : Bs} (h : one.length ≤ 100000) : appendA (big []) nf one = (big [(nf, one, 0)], 0) := by
  rw [big_append (by decide) (by simp [totA]; omega)]; rfl
theorem keeps2 (one : Bs) : syncA (big [(nf, one, 0)]) nf = (big [(nf, one, one.length)], 0) := rfl
theorem keeps3 {one more : Bs} {k : Nat} (h : one.length + more.length ≤ 100000) : appendA (big [(nf, one, k)]) nf more = (big [(nf, one ++ more, k)], 0) := by
  rw [big_append (by decide) (by simp [totA]; omega)]; rfl
theorem keeps4 {x two : Bs} {k : Nat} (h : x.length + two.length ≤ 100000) : appendA (big [(nf, x, k)]) ng two = (big [(nf, x, k), (ng, two, 0)], 0) := by
  rw [big_append (by decide) (by simp [totA]; omega)]; rfl
def down (fs : List Fl) (n : Int) : Ab := ⟨1099511627776, fs, true, none, n⟩
def bigN (fs : List Fl) (n : Int) : Ab := ⟨1099511627776, fs, false, none, n⟩
theorem keeps5 (k : Nat) (x y : Bs) (a b : Nat) (f : Int) : crashA k (bigN [(nf, x, a), (ng, y, b)] f) = down [(nf, x.take (nn k 0 (nf, x, a)), nn k 0 (nf, x, a)), (ng, y.take (nn k 1 (ng, y, b)), nn k 1 (ng, y, b))] (f + 1) := rfl
theorem down_start (fs : List Fl) (f : Int) : startA (down fs f) = bigN fs f := rfl
theorem nn_le {k i : Nat} {p : Fl} (h : p.2.2 ≤ p.2.1.length) : nn k i p ≤ p.2.1.length := by
  unfold nn
  have := Nat.mod_lt (k / (i + 1)) (show 0 < p.2.1.length - p.2.2 + 1 by omega)
  omega
theorem nn_ge (k i : Nat) (p : Fl) : p.2.2 ≤ nn k i p := Nat.le_add_right _ _
theorem nn_full {k i : Nat} {p : Fl} (h : p.2.2 = p.2.1.length) : nn k i p = p.2.2 := by
  unfold nn
  rw [h, Nat.sub_self, Nat.zero_add, Nat.mod_one, Nat.add_zero]
/-- Behind a second fall. -/
theorem keeps_again (k : Nat) {x y : Bs} {a b : Nat} (hx : a = x.length) (hy : b = y.length) (f : Int) : crashA k (bigN [(nf, x, a), (ng, y, b)] f) = down [(nf, x, a), (ng, y, b)] (f + 1) := by
  rw [keeps5, nn_full (p := (nf, x, a)) hx, nn_full (p := (ng, y, b)) hy]
  show down [(nf, x.take a, a), (ng, y.take b, b)] _ = _
  rw [hx, hy, List.take_length, List.take_length]
end Go.Proofs.Ytoceddcppbddnaa
