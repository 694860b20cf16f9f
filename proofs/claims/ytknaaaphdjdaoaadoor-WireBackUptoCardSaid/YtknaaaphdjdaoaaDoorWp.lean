/-
  An LAnswer: its bytes are it. No walk in sight.
-/
import Derived.Test.YtknaaaphdjdaoaaDoorNb
import Derived.Test.YtknaaaphdjdaoaaDoorSw
namespace Go.Proofs.YtknaaaphdjdaoaaDoor
open Go.RowKit Mem
set_option linter.unusedVariables false
set_option linter.unusedSimpArgs false

theorem nb_at {l : Bs} {k n most : Nat} {rest : Bs} (h : l.drop k = pn n ++ rest) (hn : n ≤ most) (hm : n < 18446744073709551616) : nb l k most = .ok (n, k + (pn n).length) ∧ l.drop (k + (pn n).length) = rest := by
  constructor
  · unfold nb
    rw [h, gn_pn n hm rest]
    have := (pn_len n).1
    rw [if_neg (by simp only; omega)]
  · rw [← List.drop_drop, h, List.drop_left]
theorem drop_end {l : Bs} {k : Nat} (h : l.drop k = []) : ¬ k < l.length := by
  intro hk
  have := congrArg List.length h
  rw [List.length_drop, List.length_nil] at this
  omega
theorem bw_iff (n lo hi : Int) : bw n lo hi = true ↔ lo ≤ n ∧ n ≤ hi := by
  unfold bw
  rw [Bool.and_eq_true]
  exact ⟨fun h => ⟨of_decide_eq_true h.1, of_decide_eq_true h.2⟩, fun h => ⟨decide_eq_true h.1, decide_eq_true h.2⟩⟩
theorem bit_beq (ok : Bool) : ((if ok then 1 else 0 : Nat) == 1) = ok := by cases ok <;> rfl
def m4 (fr tt tm ix rd : Int) (ok : Bool) : Lt := ⟨4, fr, tt, tm, ix, 0, 0, rd, ok, [], 0, 0, [], []⟩
theorem right4 (fr tt tm ix rd : Int) (ok : Bool) : rightB (m4 fr tt tm ix rd ok) = decide (1 ≤ fr ∧ fr ≤ 5 ∧ 1 ≤ tt ∧ tt ≤ 5 ∧ fr ≠ tt ∧ 1 ≤ tm ∧ tm ≤ 999999 ∧ 0 ≤ ix ∧ ix ≤ 999999 ∧ 0 ≤ rd ∧ rd ≤ 1073741824) := by
  have hk : kindR (m4 fr tt tm ix rd ok) = true := by simp [kindR, m4, snap0]
  unfold rightB
  rw [hk, Bool.and_true, Bool.eq_iff_iff]
  constructor
  · intro h
    simp [head0, fine0, m4, bw_iff] at h ⊢
    omega
  · intro h
    simp [head0, fine0, m4, bw_iff] at h ⊢
    omega
def bitK (ok : Bool) : Nat := if ok then 1 else 0
theorem bitK_n (ok : Bool) : (bitN ok).toNat = bitK ok := by cases ok <;> rfl
theorem bitK_le (ok : Bool) : bitK ok ≤ 1 := by cases ok <;> decide
theorem bitK_beq (ok : Bool) : (bitK ok == 1) = ok := by cases ok <;> rfl
/-- The bytes of an LAnswer. -/
def E4 (F T M I R : Nat) (ok : Bool) : Bs := pn 4 ++ (pn F ++ (pn T ++ (pn M ++ (pn (bitK ok) ++ (pn I ++ (pn R ++ []))))))
theorem E4_eq (F T M I R : Nat) (ok : Bool) : pnz [4, (F : Int), (T : Int), (M : Int)] ++ pnz [bitN ok, (I : Int), (R : Int)] = E4 F T M I R ok := by
  simp [pnz, E4, bitK_n, List.append_assoc]
theorem E4_read (F T M I R : Nat) (ok : Bool) (hF : F ≤ 5) (hT : T ≤ 5) (hM : M ≤ 999999) (hI : I ≤ 999999) (hR : R ≤ 1073741824) :
    LetOk (E4 F T M I R ok) ∧ ∃ k, letterR (E4 F T M I R ok) = .ok (m4 F T M I R ok, k) ∧ ¬ k < (E4 F T M I R ok).length := by
  obtain ⟨l, hl⟩ : ∃ l, E4 F T M I R ok = l := ⟨_, rfl⟩
  have h0 : l.drop 0 = pn 4 ++ (pn F ++ (pn T ++ (pn M ++ (pn (bitK ok) ++ (pn I ++ (pn R ++ [])))))) := by rw [List.drop_zero, ← hl]; rfl
  obtain ⟨n1, h1⟩ := nb_at (most := 5) h0 (by omega) (by omega)
  obtain ⟨n2, h2⟩ := nb_at (most := 5) h1 hF (by omega)
  obtain ⟨n3, h3⟩ := nb_at (most := 5) h2 hT (by omega)
  obtain ⟨n4, h4⟩ := nb_at (most := 999999) h3 hM (by omega)
  obtain ⟨n5, h5⟩ := nb_at (most := 1) h4 (bitK_le ok) (by have := bitK_le ok; omega)
  obtain ⟨n6, h6⟩ := nb_at (most := 999999) h5 hI (by omega)
  obtain ⟨n7, h7⟩ := nb_at (most := 1073741824) h6 hR (by omega)
  rw [hl]
  refine ⟨fun B r bv w h => letter_4 B r bv l F T M _ _ _ _ w h n1 n2 n3 n4, _, ?_, drop_end h7⟩
  unfold letterR
  rw [n1]; simp only [thn_ok]
  rw [n2]; simp only [thn_ok]
  rw [n3]; simp only [thn_ok]
  rw [n4]; simp only [thn_ok]
  unfold restR
  rw [if_neg (by decide), if_neg (by decide), if_neg (by decide), if_pos rfl]
  rw [n5]; simp only [thn_ok]
  rw [n6]; simp only [thn_ok]
  rw [n7]; simp only [thn_ok]
  rw [bitK_beq]
  rfl
theorem E4_dec (F T M I R : Nat) (ok : Bool) (hF : F ≤ 5) (hT : T ≤ 5) (hM : M ≤ 999999) (hI : I ≤ 999999) (hR : R ≤ 1073741824) (hr : rightB (m4 F T M I R ok) = true) : decR (E4 F T M I R ok) = .ok (m4 F T M I R ok) := by
  obtain ⟨_, k, h1, h2⟩ := E4_read F T M I R ok hF hT hM hI hR
  unfold decR
  rw [h1]
  simp only
  rw [if_neg h2, if_pos hr]
theorem E4_len (F T M I R : Nat) (ok : Bool) : 1 ≤ (E4 F T M I R ok).length ∧ (E4 F T M I R ok).length ≤ 77 := by
  have h1 := pn_len 4; have h2 := pn_len F; have h3 := pn_len T; have h4 := pn_len M; have h5 := pn_len (bitK ok); have h6 := pn_len I; have h7 := pn_len R
  unfold E4
  simp only [List.length_append, List.length_nil]
  omega
end Go.Proofs.YtknaaaphdjdaoaaDoor
