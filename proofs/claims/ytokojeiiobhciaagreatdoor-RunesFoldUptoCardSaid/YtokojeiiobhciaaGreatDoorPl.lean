/-
  Runes of bytes. No program in sight.
-/
import Derived.Test.YtokojeiiobhciaaGreatDoorTr
import Derived.Lib.MapLaws
import Derived.Lib.FieldsP
import Derived.Lib.Join
namespace Go.Proofs.YtokojeiiobhciaaGreatDoor
set_option linter.unusedVariables false
set_option linter.unusedSimpArgs false

/-- May a number be a character? -/
def vr (r : Nat) : Prop := r < 55296 ∨ (57344 ≤ r ∧ r ≤ 1114111)
def enc (r : Nat) : Bs := Lib.encodeRune (r : Int)
theorem decL_shape (l : Bs) (h : l ≠ []) : vr (Lib.decodeL l).1 := by
  rw [Lib.decodeL_N]
  have k0 := (l.getD 0 0).toNat_lt
  unfold vr
  rcases Lib.decodeN_shape l.length (l.getD 0 0).toNat (l.getD 1 0).toNat (l.getD 2 0).toNat (l.getD 3 0).toNat with ⟨c, e⟩ | ⟨c1, c2, c3, cv, e⟩ | ⟨c1, c2, c3, c4, cv, cs, e⟩ | ⟨c1, c2, c3, c4, c5, cv, cw, e⟩ | e
  all_goals (rw [e]; dsimp only; omega)
theorem toU (z : Int) (h0 : 0 ≤ z) (h : z < 256) : (z.toNat.toUInt8).toNat = z.toNat := by
  simp; omega
theorem dec_enc (r : Nat) (h : vr r) (t : Bs) : Lib.decodeL (enc r ++ t) = (r, (enc r).length) := by
  unfold vr at h
  unfold enc Lib.encodeRune
  by_cases h1 : r ≤ 127
  · rw [Lib.encodeRuneZ_one (by omega) (by omega), Lib.decodeL_N]
    simp only [List.map_cons, List.map_nil, List.cons_append, List.nil_append, List.getD_cons_zero, List.length_cons, List.length_nil]
    rw [toU _ (by omega) (by omega)]
    unfold Lib.decodeN
    rw [if_pos (by omega)]
    simp
  · by_cases h2 : r ≤ 2047
    · rw [Lib.encodeRuneZ_two (by omega) (by omega), Lib.decodeL_N]
      simp only [List.map_cons, List.map_nil, List.cons_append, List.nil_append, List.getD_cons_zero, List.getD_cons_succ, List.length_cons, List.length_nil]
      rw [toU _ (by omega) (by omega), toU _ (by omega) (by omega)]
      unfold Lib.decodeN
      rw [if_neg (by omega), if_pos (by omega), if_pos (by omega)]
      rw [Prod.mk.injEq]; exact ⟨by omega, rfl⟩
    · by_cases h3 : r ≤ 65535
      · rw [Lib.encodeRuneZ_three (by omega), Lib.decodeL_N]
        simp only [List.map_cons, List.map_nil, List.cons_append, List.nil_append, List.getD_cons_zero, List.getD_cons_succ, List.length_cons, List.length_nil]
        rw [toU _ (by omega) (by omega), toU _ (by omega) (by omega), toU _ (by omega) (by omega)]
        unfold Lib.decodeN
        rw [if_neg (by omega), if_neg (by omega), if_pos (by omega), if_pos (by omega)]
        rw [Prod.mk.injEq]; exact ⟨by omega, rfl⟩
      · rw [Lib.encodeRuneZ_four (by omega) (by omega), Lib.decodeL_N]
        simp only [List.map_cons, List.map_nil, List.cons_append, List.nil_append, List.getD_cons_zero, List.getD_cons_succ, List.length_cons, List.length_nil]
        rw [toU _ (by omega) (by omega), toU _ (by omega) (by omega), toU _ (by omega) (by omega), toU _ (by omega) (by omega)]
        unfold Lib.decodeN
        rw [if_neg (by omega), if_neg (by omega), if_neg (by omega), if_pos (by omega), if_pos (by omega)]
        rw [Prod.mk.injEq]; exact ⟨by omega, rfl⟩
theorem enc_ne (r : Nat) : enc r ≠ [] := by
  unfold enc Lib.encodeRune
  intro h
  have := congrArg List.length h
  rw [List.length_map] at this
  have h2 := (Lib.encodeRuneZ_length (r : Int)).1
  simp at this
  rw [this] at h2
  simp at h2

/-- The characters of bytes. -/
def rsN : Nat → Bs → List Nat
  | 0, _ => []
  | n + 1, l => if l = [] then [] else (Lib.decodeL l).1 :: rsN n (l.drop (Lib.decodeL l).2)
theorem rsN_nil (n : Nat) : rsN n [] = [] := by cases n <;> simp [rsN]
theorem rsN_fuel : ∀ (n m : Nat) (l : Bs), l.length ≤ n → l.length ≤ m → rsN n l = rsN m l
  | 0, m, l, hn, _ => by
    have : l = [] := List.eq_nil_of_length_eq_zero (by omega)
    subst this
    rw [rsN_nil, rsN_nil]
  | n + 1, 0, l, _, hm => by
    have : l = [] := List.eq_nil_of_length_eq_zero (by omega)
    subst this
    rw [rsN_nil, rsN_nil]
  | n + 1, m + 1, l, hn, hm => by
    by_cases hne : l = []
    · subst hne
      rw [rsN_nil, rsN_nil]
    · have hw := Lib.decodeL_width l
      have hl : 0 < l.length := List.length_pos_iff.2 hne
      simp only [rsN, if_neg hne]
      rw [rsN_fuel n m _ (by rw [List.length_drop]; omega) (by rw [List.length_drop]; omega)]
def rs (l : Bs) : List Nat := rsN l.length l
theorem rs_nil : rs [] = [] := rfl
theorem rs_step (l : Bs) (hne : l ≠ []) : rs l = (Lib.decodeL l).1 :: rs (l.drop (Lib.decodeL l).2) := by
  have hw := Lib.decodeL_width l
  have hl : 0 < l.length := List.length_pos_iff.2 hne
  unfold rs
  obtain ⟨n, hn⟩ : ∃ n, l.length = n + 1 := ⟨l.length - 1, by omega⟩
  rw [hn]
  simp only [rsN, if_neg hne]
  rw [rsN_fuel n _ _ (by rw [List.length_drop]; omega) (Nat.le_refl _)]
theorem rs_enc (r : Nat) (h : vr r) (t : Bs) : rs (enc r ++ t) = r :: rs t := by
  have hne : enc r ++ t ≠ [] := by simp [enc_ne]
  rw [rs_step _ hne, dec_enc r h, List.drop_left]
theorem rs_encs : ∀ (L : List Nat), (∀ r ∈ L, vr r) → ∀ t, rs (L.flatMap enc ++ t) = L ++ rs t
  | [], _, t => rfl
  | r :: L, h, t => by
    rw [List.flatMap_cons, List.append_assoc, rs_enc r (h r (by simp)), rs_encs L (fun x hx => h x (by simp [hx])), List.cons_append]
theorem rs_vr : ∀ (n : Nat) (l : Bs), l.length ≤ n → ∀ r ∈ rs l, vr r
  | 0, l, h, r, hr => by
    have : l = [] := List.eq_nil_of_length_eq_zero (by omega)
    subst this
    cases hr
  | n + 1, l, h, r, hr => by
    by_cases hne : l = []
    · subst hne; cases hr
    · have hw := Lib.decodeL_width l
      have hl : 0 < l.length := List.length_pos_iff.2 hne
      rw [rs_step l hne] at hr
      rcases List.mem_cons.1 hr with e | hr
      · rw [e]; exact decL_shape l hne
      · exact rs_vr n _ (by rw [List.length_drop]; omega) r hr

/-- Bytes that begin with none that goes on with a character. -/
def noc : Bs → Prop
  | [] => True
  | b :: _ => b.toNat / 64 ≠ 2
/-- What is read does not hang on what stands behind, as long as it is no going on. -/
theorem dec_cut (u X Y : Bs) (hu : u ≠ []) (hX : noc X) (hk : (Lib.decodeL (u ++ Y)).2 ≤ u.length) : Lib.decodeL (u ++ X) = Lib.decodeL (u ++ Y) := by
  rw [Lib.decodeL_N] at hk ⊢
  rw [Lib.decodeL_N]
  have hx : ∀ b t, X = b :: t → b.toNat / 64 ≠ 2 := fun b t e => by subst e; exact hX
  rcases u with _ | ⟨a, _ | ⟨b, _ | ⟨c, _ | ⟨d, u⟩⟩⟩⟩
  · exact absurd rfl hu
  all_goals
    simp only [List.cons_append, List.nil_append, List.getD_cons_zero, List.getD_cons_succ, List.length_cons, List.length_nil, List.length_append] at hk ⊢
  · have ka := a.toNat_lt
    have h0 : ∀ n x y z, (1 < n → x / 64 ≠ 2) → Lib.decodeN n a.toNat x y z = if a.toNat < 128 then (a.toNat, 1) else (65533, 1) := by
      intro n x y z hn
      unfold Lib.decodeN
      repeat' split
      all_goals first | (exfalso; omega) | rfl
    rw [h0 _ _ _ _ (by
      cases X with
      | nil => intro h; simp at h
      | cons x X => intro _; exact hx x X rfl)]
    rcases Lib.decodeN_shape (Y.length + 1) a.toNat (Y.getD 0 0).toNat (Y.getD 1 0).toNat (Y.getD 2 0).toNat with ⟨c, e⟩ | ⟨c1, c2, c3, cv, e⟩ | ⟨c1, c2, c3, c4, cv, cs, e⟩ | ⟨c1, c2, c3, c4, c5, cv, cw, e⟩ | e
    · rw [e, if_pos c]
    · rw [e] at hk; dsimp only at hk; omega
    · rw [e] at hk; dsimp only at hk; omega
    · rw [e] at hk; dsimp only at hk; omega
    · rw [e]
      split
      · next hlt => unfold Lib.decodeN at e; rw [if_pos hlt] at e; rw [e]
      · rfl
  · have h2 : ∀ n x y, (2 < n → x / 64 ≠ 2) → 1 < n → Lib.decodeN n a.toNat b.toNat x y = Lib.decodeN 2 a.toNat b.toNat 0 0 := by
      intro n x y hn h1
      unfold Lib.decodeN
      repeat' split
      all_goals first | (exfalso; omega) | rfl
    rw [h2 _ _ _ (by
      cases X with
      | nil => intro h; simp at h
      | cons x X => intro _; exact hx x X rfl) (by omega)]
    rcases Lib.decodeN_shape (Y.length + 1 + 1) a.toNat b.toNat (Y.getD 0 0).toNat (Y.getD 1 0).toNat with ⟨c, e⟩ | ⟨c1, c2, c3, cv, e⟩ | ⟨c1, c2, c3, c4, cv, cs, e⟩ | ⟨c1, c2, c3, c4, c5, cv, cw, e⟩ | e
    · rw [e]; unfold Lib.decodeN; rw [if_pos c]
    · rw [e]; unfold Lib.decodeN; rw [if_neg (by omega), if_pos (by omega), if_pos (by omega)]
    · rw [e] at hk; dsimp only at hk; omega
    · rw [e] at hk; dsimp only at hk; omega
    · rw [e]
      have ka := a.toNat_lt
      rcases Lib.decodeN_shape 2 a.toNat b.toNat 0 0 with ⟨c, f⟩ | ⟨c1, c2, c3, cv, f⟩ | ⟨c1, c2, c3, c4, cv, cs, f⟩ | ⟨c1, c2, c3, c4, c5, cv, cw, f⟩ | f
      · unfold Lib.decodeN at e; rw [if_pos c, Prod.mk.injEq] at e; omega
      · unfold Lib.decodeN at e; rw [if_neg (by omega), if_pos (by omega), if_pos (by omega), Prod.mk.injEq] at e; omega
      · omega
      · omega
      · exact f
  · have h2 : ∀ n x, (3 < n → x / 64 ≠ 2) → 2 < n → Lib.decodeN n a.toNat b.toNat c.toNat x = Lib.decodeN 3 a.toNat b.toNat c.toNat 0 := by
      intro n x hn h1
      unfold Lib.decodeN
      repeat' split
      all_goals first | (exfalso; omega) | rfl
    rw [h2 _ _ (by
      cases X with
      | nil => intro h; simp at h
      | cons x X => intro _; exact hx x X rfl) (by omega)]
    rcases Lib.decodeN_shape (Y.length + 1 + 1 + 1) a.toNat b.toNat c.toNat (Y.getD 0 0).toNat with ⟨c, e⟩ | ⟨c1, c2, c3, cv, e⟩ | ⟨c1, c2, c3, c4, cv, cs, e⟩ | ⟨c1, c2, c3, c4, c5, cv, cw, e⟩ | e
    · rw [e]; unfold Lib.decodeN; rw [if_pos c]
    · rw [e]; unfold Lib.decodeN; rw [if_neg (by omega), if_pos (by omega), if_pos (by omega)]
    · rw [e]; unfold Lib.decodeN; rw [if_neg (by omega), if_neg (by omega), if_pos (by omega), if_pos (by omega)]
    · rw [e] at hk; dsimp only at hk; omega
    · rw [e]
      have ka := a.toNat_lt
      rcases Lib.decodeN_shape 3 a.toNat b.toNat c.toNat 0 with ⟨c, f⟩ | ⟨c1, c2, c3, cv, f⟩ | ⟨c1, c2, c3, c4, cv, cs, f⟩ | ⟨c1, c2, c3, c4, c5, cv, cw, f⟩ | f
      · unfold Lib.decodeN at e; rw [if_pos c, Prod.mk.injEq] at e; omega
      · unfold Lib.decodeN at e; rw [if_neg (by omega), if_pos (by omega), if_pos (by omega), Prod.mk.injEq] at e; omega
      · unfold Lib.decodeN at e; rw [if_neg (by omega), if_neg (by omega), if_pos (by omega), if_pos (by omega), Prod.mk.injEq] at e; omega
      · omega
      · exact f
  · unfold Lib.decodeN
    simp only [show ∀ n : Nat, 1 < n + 1 + 1 + 1 + 1 from fun n => by omega, show ∀ n : Nat, 2 < n + 1 + 1 + 1 + 1 from fun n => by omega, show ∀ n : Nat, 3 < n + 1 + 1 + 1 + 1 from fun n => by omega]

end Go.Proofs.YtokojeiiobhciaaGreatDoor
