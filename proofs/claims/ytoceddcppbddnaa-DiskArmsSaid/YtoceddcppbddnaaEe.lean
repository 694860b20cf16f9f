/-
  DiskArms: what the disk is behind each deed. No memory in sight.
-/
import Derived.Test.YtoceddcppbddnaaEc
namespace Go.Proofs.Ytoceddcppbddnaa
set_option linter.unusedVariables false
set_option linter.unusedSimpArgs false

def upA (al : Int) (k i : Nat) (b : Bs) (n : Nat) : Ab := ⟨1099511627776, if i = 0 then [] else [(nf, b, n)], false, if al < 0 then none else some (al - (i : Int), k), 0⟩
def dnA (b : Bs) (n : Nat) : Ab := ⟨1099511627776, [(nf, b, n)], true, none, 1⟩
def ArmI (al : Int) (k i : Nat) (A : Ab) : Prop :=
  ((al < 0 ∨ (i : Int) ≤ al) ∧ ∃ b n, A = upA al k i b n ∧ b.length = (i + 1) / 2 ∧ n = i / 2) ∨
  ((0 ≤ al ∧ al < (i : Int)) ∧ ∃ b n, A = dnA b n ∧ al.toNat / 2 ≤ b.length ∧ b.length ≤ (al.toNat + 1) / 2 + 1)
def okB (al : Int) (i : Nat) : Bool := decide (al < 0 ∨ (i : Int) < al)
/-- What a step answers. -/
def ArmS (al : Int) (k i : Nat) (R : Ab × Int) : Prop := ArmI al k (i + 1) R.1 ∧ R.2 = (if okB al i then 0 else 13) ∧ R.1.off = !okB al i
theorem arm_start (al : Int) (k : Nat) (h : al = -1 ∨ 0 ≤ al) : ArmI al k 0 (armA (big []) al k) := by
  left
  refine ⟨by omega, [], 0, ?_, rfl, rfl⟩
  show (⟨1099511627776, [], false, if 0 ≤ al then some (al, k) else none, 0⟩ : Ab) = ⟨1099511627776, [], false, if al < 0 then none else some (al - ((0 : Nat) : Int), k), 0⟩
  rcases h with h | h
  · rw [if_neg (by omega), if_pos (by omega)]
  · rw [if_pos (by omega), if_neg (by omega)]
    have : al - ((0 : Nat) : Int) = al := by omega
    rw [this]
theorem arm_falls {al : Int} {k i : Nat} {A : Ab} (h : ArmI al k i A) : A.falls < 1000000 ∧ A.fs.length < 1000 ∧ totA A.fs ≤ 1000 + i + al.toNat := by
  rcases h with ⟨_, b, n, rfl, h1, h2⟩ | ⟨_, b, n, rfl, h1, h2⟩
  · refine ⟨by show (0 : Int) < _; decide, ?_, ?_⟩
    · show (if i = 0 then [] else [(nf, b, n)]).length < 1000
      split <;> simp
    · show totA (if i = 0 then [] else [(nf, b, n)]) ≤ _
      split <;> simp [totA]
      omega
  · refine ⟨by show (1 : Int) < _; decide, by show 1 < 1000; decide, ?_⟩
    show b.length + 0 ≤ _
    omega
theorem up_deed {al : Int} {k i : Nat} {fs : List Fl} {f : Ab → Ab} (hok : al < 0 ∨ (i : Int) < al) :
    deedA ⟨1099511627776, fs, false, if al < 0 then none else some (al - (i : Int), k), 0⟩ f = (f ⟨1099511627776, fs, false, if al < 0 then none else some (al - ((i + 1 : Nat) : Int), k), 0⟩, 0) := by
  by_cases h : al < 0
  · rw [if_pos h, if_pos h]
    rfl
  · rw [if_neg h, if_neg h]
    unfold deedA blowsA tickA
    dsimp only
    rw [if_neg (by omega)]
    have : al - (i : Int) - 1 = al - ((i + 1 : Nat) : Int) := by omega
    rw [this]
theorem up_blow {al : Int} {k i : Nat} {b : Bs} {n : Nat} {f : Ab → Ab} (h0 : 0 ≤ al) (he : al = (i : Int)) :
    deedA ⟨1099511627776, [(nf, b, n)], false, if al < 0 then none else some (al - (i : Int), k), 0⟩ f = (dnA (b.take (nn k 0 (nf, b, n))) (nn k 0 (nf, b, n)), 13) := by
  rw [if_neg (by omega)]
  have : al - (i : Int) = 0 := by omega
  rw [this]
  rfl
theorem arm_append {al : Int} {k i : Nat} {A : Ab} (x : UInt8) (h : ArmI al k i A) (hi : i % 2 = 0) (hb : i < 1000 ∧ al < 1000) : ArmS al k i (appendA A nf [x]) := by
  rcases h with ⟨hal, b, n, rfl, h1, h2⟩ | ⟨⟨h0, hlt⟩, b, n, rfl, h1, h2⟩
  · have hput : appendA (upA al k i b n) nf [x] = deedA ⟨1099511627776, [(nf, (if i = 0 then [] else b) ++ [x], n)], false, if al < 0 then none else some (al - (i : Int), k), 0⟩ (fun A => A) := by
      rw [append_ok rfl (by decide)]
      · congr 1
        show withFs _ (putA (if i = 0 then [] else [(nf, b, n)]) nf [x]) = _
        by_cases hi0 : i = 0
        · subst hi0
          have : n = 0 := by omega
          subst this
          rfl
        · rw [if_neg hi0, if_neg hi0]
          rfl
      · show (1 : Int) ≤ 1099511627776 - ((totA (if i = 0 then [] else [(nf, b, n)]) : Nat) : Int)
        split
        · simp [totA]
        · simp [totA]; omega
    rw [hput]
    have hbl : ((if i = 0 then [] else b) ++ [x]).length = i / 2 + 1 := by
      rw [List.length_append]
      by_cases hi0 : i = 0
      · rw [if_pos hi0]; subst hi0; rfl
      · rw [if_neg hi0]; simp; omega
    by_cases hok : al < 0 ∨ (i : Int) < al
    · rw [up_deed hok]
      have hk : okB al i = true := decide_eq_true hok
      refine ⟨.inl ⟨by omega, _, n, ?_, by rw [hbl]; omega, by omega⟩, by rw [hk]; rfl, by rw [hk]; rfl⟩
      unfold upA
      rw [if_neg (Nat.succ_ne_zero i)]
    · have hk : okB al i = false := decide_eq_false hok
      rw [up_blow (by omega) (by omega)]
      have hN := nn_le (k := k) (i := 0) (p := (nf, (if i = 0 then [] else b) ++ [x], n)) (by show n ≤ ((if i = 0 then [] else b) ++ [x]).length; rw [hbl]; omega)
      have hN2 := nn_ge k 0 (nf, (if i = 0 then [] else b) ++ [x], n)
      dsimp only at hN hN2
      refine ⟨.inr ⟨by omega, _, _, rfl, ?_, ?_⟩, by rw [hk]; rfl, by rw [hk]; rfl⟩
      · rw [List.length_take]; omega
      · rw [List.length_take]; omega
  · have hk : okB al i = false := decide_eq_false (by omega)
    exact ⟨.inr ⟨by omega, b, n, rfl, h1, h2⟩, by rw [hk]; rfl, by rw [hk]; rfl⟩
theorem arm_sync {al : Int} {k i : Nat} {A : Ab} (h : ArmI al k i A) (hi : i % 2 = 1) : ArmS al k i (syncA A nf) := by
  rcases h with ⟨hal, b, n, rfl, h1, h2⟩ | ⟨⟨h0, hlt⟩, b, n, rfl, h1, h2⟩
  · have hi0 : i ≠ 0 := by omega
    have hput : syncA (upA al k i b n) nf = deedA ⟨1099511627776, [(nf, b, n)], false, if al < 0 then none else some (al - (i : Int), k), 0⟩ (fun A => withFs A (setA A.fs nf b b.length)) := by
      unfold upA
      rw [if_neg hi0]
      rfl
    rw [hput]
    by_cases hok : al < 0 ∨ (i : Int) < al
    · rw [up_deed hok]
      have hk : okB al i = true := decide_eq_true hok
      refine ⟨.inl ⟨by omega, b, b.length, ?_, by omega, by omega⟩, by rw [hk]; rfl, by rw [hk]; rfl⟩
      unfold upA
      rw [if_neg (Nat.succ_ne_zero i)]
      rfl
    · have hk : okB al i = false := decide_eq_false hok
      rw [up_blow (by omega) (by omega)]
      have hN := nn_le (k := k) (i := 0) (p := (nf, b, n)) (by show n ≤ b.length; omega)
      have hN2 := nn_ge k 0 (nf, b, n)
      dsimp only at hN hN2
      refine ⟨.inr ⟨by omega, _, _, rfl, ?_, ?_⟩, by rw [hk]; rfl, by rw [hk]; rfl⟩
      · rw [List.length_take]; omega
      · rw [List.length_take]; omega
  · have hk : okB al i = false := decide_eq_false (by omega)
    exact ⟨.inr ⟨by omega, b, n, rfl, h1, h2⟩, by rw [hk]; rfl, by rw [hk]; rfl⟩
/-- At the end. -/
theorem arm_end {al : Int} {k N : Nat} {A : Ab} (h : ArmI al k N A) (done : Nat) (hd : (al < 0 ∧ done = N) ∨ (0 ≤ al ∧ (done : Int) = min (N : Int) al)) :
    done / 2 ≤ (readA (startA A) nf).1.length ∧ (readA (startA A) nf).1.length ≤ (done + 1) / 2 + 1 := by
  rcases h with ⟨hal, b, n, rfl, h1, h2⟩ | ⟨⟨h0, hlt⟩, b, n, rfl, h1, h2⟩
  · by_cases hN : N = 0
    · subst hN
      have : readA (startA (upA al k 0 b n)) nf = ([], 15) := rfl
      rw [this]
      simp
      omega
    · have : readA (startA (upA al k N b n)) nf = (b, 0) := by
        unfold upA
        rw [if_neg hN]
        rfl
      rw [this]
      dsimp only
      omega
  · have : readA (startA (dnA b n)) nf = (b, 0) := rfl
    rw [this]
    dsimp only
    omega
end Go.Proofs.Ytoceddcppbddnaa
