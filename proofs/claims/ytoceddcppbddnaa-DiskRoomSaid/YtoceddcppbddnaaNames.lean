/-
  Names and texts as lists of bytes. No program in sight.
-/
import Derived.Shelf.GgClosure.StringsIndexFunc
import Derived.Lib.Bytealg
import Derived.Lib.IndexLaws
import Derived.Laws.StructEq
namespace Go.Proofs.Ytoceddcppbddnaa
set_option linter.unusedVariables false

abbrev Bs := List UInt8
/-- A string of bytes. -/
def sv (l : Bs) : ByteArray := ⟨l.toArray⟩
theorem sv_list (l : Bs) : (sv l).data.toList = l := rfl
theorem sv_of (s : ByteArray) : sv s.data.toList = s := by cases s; simp [sv]
theorem sv_inj {a b : Bs} : sv a = sv b ↔ a = b := by
  constructor
  · intro h; rw [← sv_list a, h, sv_list]
  · intro h; rw [h]
theorem sv_toList (l : Bs) : (sv l).toList = l := by rw [ByteArray.toList_eq]; rfl
theorem sv_beq (a b : Bs) : ((sv a).toList == (sv b).toList) = (a == b) := by rw [sv_toList, sv_toList]
theorem sv_size (l : Bs) : (sv l).size = l.length := rfl

/-- May a byte stand in a name? -/
def okb (b : UInt8) : Bool := (97 ≤ b && b ≤ 122) || (48 ≤ b && b ≤ 57) || b == 45
/-- Is it odd, as a rune? -/
def oddR (x : Nat) : Bool := !((97 ≤ x && x ≤ 122) || (48 ≤ x && x ≤ 57) || x == 45)
theorem oddR_byte (b : UInt8) : oddR b.toNat = !okb b := by
  unfold oddR okb
  have e : (b == 45) = (b.toNat == 45) := by
    rw [Bool.eq_iff_iff]; simp only [beq_iff_eq]
    exact ⟨fun h => by rw [h]; rfl, fun h => UInt8.toNat_inj.1 h⟩
  rw [e]
  simp [UInt8.le_iff_toNat_le]
theorem oddR_high {x : Nat} (h : 128 ≤ x) : oddR x = true := by
  unfold oddR
  have h1 : decide (x ≤ 122) = false := by simp; omega
  have h2 : decide (x ≤ 57) = false := by simp; omega
  have h3 : (x == 45) = false := by simp; omega
  rw [h1, h2, h3]
  simp
/-- A name. -/
def nm (l : Bs) : Bool := match l with
  | [] => false
  | b :: _ => decide (l.length ≤ 16) && (97 ≤ b && b ≤ 122) && l.all okb

theorem decode_low (s : ByteArray) (i : Nat) (h : (s.get! i).toNat < 128) : Utf8.decode s i = ((s.get! i).toNat, 1) := by
  unfold Utf8.decode
  simp only [Nat.add_zero]
  rw [if_pos h]
theorem decode_high (s : ByteArray) (i : Nat) (h : ¬ (s.get! i).toNat < 128) : 128 ≤ (Utf8.decode s i).1 := by
  unfold Utf8.decode
  simp only [Nat.add_zero]
  rw [if_neg h]
  repeat' split
  all_goals first | (simp only [Bool.and_eq_true, decide_eq_true_eq, ge_iff_le] at *; omega) | (show 128 ≤ Utf8.runeError; decide) | skip
theorem get!_list (s : ByteArray) (i : Nat) (h : i < s.size) : s.data.toList[i]? = some (s.get! i) := by
  have h' : i < s.data.size := h
  rw [Array.getElem?_toList, Array.getElem?_eq_getElem h']
  cases s with
  | mk d =>
    show some d[i] = some d[i]!
    rw [getElem!_pos d i h']
/-- Where the first odd rune stands: at the first odd byte. -/
theorem idx_bytes (p : Nat → Bool) (hp : ∀ x, 128 ≤ x → p x = true) (s : ByteArray) : ∀ f pos, s.size ≤ pos + f → decide (0 ≤ Lib.idxFuncFrom p true s f pos) = (s.data.toList.drop pos).any (fun b => p b.toNat)
  | 0, pos, h => by
    rw [List.drop_eq_nil_of_le (by simp; exact h)]
    rfl
  | f + 1, pos, h => by
    unfold Lib.idxFuncFrom
    by_cases hlt : pos < s.size
    · rw [if_pos hlt]
      have hl : pos < s.data.toList.length := by simpa using hlt
      have hg := get!_list s pos hlt
      rw [List.getElem?_eq_getElem hl] at hg
      injection hg with hg
      rw [List.drop_eq_getElem_cons hl, List.any_cons, hg]
      by_cases hb : (s.get! pos).toNat < 128
      · rw [decode_low s pos hb]
        dsimp only
        by_cases hpb : p (s.get! pos).toNat = true
        · rw [if_pos hpb, hpb]; simp
        · rw [if_neg hpb, idx_bytes p hp s f (pos + 1) (by omega)]
          have : p (s.get! pos).toNat = false := by simpa using hpb
          rw [this]; simp
      · have h1 := decode_high s pos hb
        rw [if_pos (hp _ h1), hp _ (by omega)]
        simp
    · rw [if_neg hlt, List.drop_eq_nil_of_le (by simp; omega)]
      rfl
theorem contains_odd (l : Bs) : decide (0 ≤ Lib.idxFunc oddR true (sv l)) = !l.all okb := by
  unfold Lib.idxFunc
  rw [idx_bytes oddR (fun x h => oddR_high h) (sv l) _ 0 (by omega), List.drop_zero, sv_list]
  induction l with
  | nil => rfl
  | cons b l ih => rw [List.any_cons, List.all_cons, ih, oddR_byte]; cases okb b <;> simp

/-- Split at the first such byte. -/
def cut (c : UInt8) : Bs → Option (Bs × Bs)
  | [] => none
  | b :: l => if b == c then some ([], l) else (cut c l).map fun p => (b :: p.1, p.2)
theorem cut_index (c : UInt8) : ∀ l : Bs, (Lib.indexByte l c = -1 ∧ cut c l = none) ∨ ∃ n : Nat, Lib.indexByte l c = n ∧ n < l.length ∧ cut c l = some (l.take n, l.drop (n + 1))
  | [] => .inl ⟨rfl, rfl⟩
  | b :: l => by
    by_cases h : (b == c) = true
    · exact .inr ⟨0, by simp [Lib.indexByte, h], by simp, by simp [cut, h]⟩
    · rcases cut_index c l with ⟨h1, h2⟩ | ⟨n, h1, h2, h3⟩
      · exact .inl ⟨by simp [Lib.indexByte, h, h1], by simp [cut, h, h2]⟩
      · refine .inr ⟨n + 1, ?_, by simpa using h2, by simp [cut, h, h3]⟩
        simp only [Lib.indexByte, h, h1]
        have : ((n : Int) == -1) = false := by simp
        simp [this]
end Go.Proofs.Ytoceddcppbddnaa
