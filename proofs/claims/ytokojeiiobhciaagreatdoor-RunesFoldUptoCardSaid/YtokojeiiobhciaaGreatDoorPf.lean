/-
  What Fold makes of a text, by its characters. No walk in sight.
-/
import Derived.Test.YtokojeiiobhciaaGreatDoorFo
import Derived.Test.YtokojeiiobhciaaGreatDoorPl
namespace Go.Proofs.YtokojeiiobhciaaGreatDoor
set_option linter.unusedVariables false
set_option linter.unusedSimpArgs false

def fldP (p : Nat → Bool) : Nat → Bs → Bs → List Bs
  | 0, cur, _ => if cur = [] then [] else [cur]
  | f + 1, cur, l =>
    if l = [] then (if cur = [] then [] else [cur])
    else if p (Lib.decodeL l).1 then (if cur = [] then [] else [cur]) ++ fldP p f [] (l.drop (Lib.decodeL l).2)
    else fldP p f (cur ++ l.take (Lib.decodeL l).2) (l.drop (Lib.decodeL l).2)
theorem fldP_nil (p : Nat → Bool) (f : Nat) (cur : Bs) : fldP p f cur [] = if cur = [] then [] else [cur] := by
  cases f with
  | zero => rfl
  | succ f => simp [fldP]
open Lib in
theorem spansP_eq (p : Nat → Bool) (s : ByteArray) : ∀ (f pos : Nat) (st : Option Nat) (acc : List (Nat × Nat)), s.size ≤ pos + f → pos ≤ s.size → (∀ a, st = some a → a < pos) →
    acc.map (fun q => pieceU s.data.toList q.1 q.2) ++ fldP p f (openPiece s.data.toList st pos) (s.data.toList.drop pos) = (closeSpans s (spansFromP p s f pos st acc)).map (fun q => pieceU s.data.toList q.1 q.2)
  | 0, pos, st, acc, h, hp, hst => by
    obtain rfl : pos = s.size := by omega
    have hd : s.data.toList.drop s.size = [] := List.drop_eq_nil_of_le (by rw [← size_eq]; exact Nat.le_refl _)
    rw [hd, fldP_nil]
    cases st with
    | none => simp [spansFromP, closeSpans, openPiece]
    | some a =>
      have := pieceU_ne s.data.toList a s.size (hst a rfl) (by rw [← size_eq]; exact Nat.le_refl _)
      simp [spansFromP, closeSpans, openPiece, this]
  | f + 1, pos, st, acc, h, hp, hst => by
    by_cases hlt : pos < s.size
    · have hne : s.data.toList.drop pos ≠ [] := by
        intro h0
        have := congrArg List.length h0
        rw [List.length_drop, ← size_eq] at this
        simp at this
        omega
      have hw := width_pos s pos
      have hwn : pos + (Utf8.decode s pos).2 ≤ s.size := by
        have := decodeN_le_n' (s.size - pos) (s.get! pos).toNat (s.get! (pos + 1)).toNat (s.get! (pos + 2)).toNat (s.get! (pos + 3)).toNat (by omega)
        rw [← decode_at] at this
        omega
      simp only [fldP, spansFromP, if_neg hne, if_pos hlt, decodeL_drop, List.drop_drop]
      cases hsp : p (Utf8.decode s pos).1 with
      | true =>
        simp only [if_true]
        cases st with
        | none =>
          have ih := spansP_eq p s f (pos + (Utf8.decode s pos).2) none acc (by omega) hwn (fun a h => by cases h)
          simpa [openPiece] using ih
        | some a =>
          have hpn := pieceU_ne s.data.toList a pos (hst a rfl) (by rw [← size_eq]; omega)
          have ih := spansP_eq p s f (pos + (Utf8.decode s pos).2) none (acc ++ [(a, pos)]) (by omega) hwn (fun a h => by cases h)
          simpa [openPiece, hpn] using ih
      | false =>
        simp only [Bool.false_eq_true, if_false]
        cases st with
        | none =>
          have ih := spansP_eq p s f (pos + (Utf8.decode s pos).2) (some pos) acc (by omega) hwn (fun a h => by cases h; omega)
          have e : ([] : List UInt8) ++ (s.data.toList.drop pos).take (Utf8.decode s pos).2 = pieceU s.data.toList pos (pos + (Utf8.decode s pos).2) := by
            unfold pieceU
            rw [List.nil_append, Nat.add_sub_cancel_left]
          simp only [openPiece] at ih ⊢
          rw [e]
          exact ih
        | some a =>
          have ih := spansP_eq p s f (pos + (Utf8.decode s pos).2) (some a) acc (by omega) hwn (fun b h => by cases h; have := hst a rfl; omega)
          simp only [openPiece] at ih ⊢
          rw [pieceU_grow _ _ _ _ (Nat.le_of_lt (hst a rfl))]
          exact ih
    · obtain rfl : pos = s.size := by omega
      have hd : s.data.toList.drop s.size = [] := List.drop_eq_nil_of_le (by rw [← size_eq]; exact Nat.le_refl _)
      rw [hd, fldP_nil, spansFromP_end p s _ _ _ _ hlt]
      cases st with
      | none => simp [closeSpans, openPiece]
      | some a =>
        have := pieceU_ne s.data.toList a s.size (hst a rfl) (by rw [← size_eq]; exact Nat.le_refl _)
        simp [closeSpans, openPiece, this]
open Lib in
theorem goFieldsP_eq (p : Nat → Bool) (s : ByteArray) : (goFieldsP p s).map (·.data.toList) = fldP p s.size [] s.data.toList := by
  have h := spansP_eq p s s.size 0 none [] (by omega) (Nat.zero_le _) (fun a h => by cases h)
  simp only [List.map_nil, List.nil_append, openPiece, List.drop_zero] at h
  unfold goFieldsP spansOfP
  rw [h, List.map_map]
  congr 1
  funext q
  simp [pieceU]

/-- Characters that bytes begin with, and what is left. -/
inductive Run : Bs → List Nat → Bs → Prop
  | nil (l : Bs) : Run l [] l
  | cons (l : Bs) (L : List Nat) (r : Bs) (h : l ≠ []) (k : Run (l.drop (Lib.decodeL l).2) L r) : Run l ((Lib.decodeL l).1 :: L) r
theorem Run.len {a : Bs} {L : List Nat} {b : Bs} (h : Run a L b) : b.length ≤ a.length := by
  induction h with
  | nil => exact Nat.le_refl _
  | cons l L r h k ih => rw [List.length_drop] at ih; omega
theorem Run.snoc {a : Bs} {L : List Nat} {b : Bs} (h : Run a L b) (hb : b ≠ []) : Run a (L ++ [(Lib.decodeL b).1]) (b.drop (Lib.decodeL b).2) := by
  induction h with
  | nil l => exact Run.cons _ _ _ hb (Run.nil _)
  | cons l L r h k ih => exact Run.cons _ _ _ h (ih hb)
theorem run_all : ∀ (n : Nat) (l : Bs), l.length ≤ n → Run l (rs l) []
  | 0, l, h => by
    have : l = [] := List.eq_nil_of_length_eq_zero (by omega)
    subst this; exact Run.nil _
  | n + 1, l, h => by
    by_cases hne : l = []
    · subst hne; exact Run.nil _
    · have hw := Lib.decodeL_width l
      have hl : 0 < l.length := List.length_pos_iff.2 hne
      rw [rs_step l hne]
      exact Run.cons _ _ _ hne (run_all n _ (by rw [List.length_drop]; omega))
theorem run_cut : ∀ (L : List Nat) (c l : Bs), Run (c ++ l) L l → ∀ X, noc X → rs (c ++ X) = L ++ rs X := by
  intro L
  induction L with
  | nil =>
    intro c l h X hX
    generalize hE : c ++ l = E at h
    cases h
    have := congrArg List.length hE
    rw [List.length_append] at this
    have : c = [] := List.eq_nil_of_length_eq_zero (by omega)
    subst this; rfl
  | cons x L ih =>
    intro c l h X hX
    generalize hE : c ++ l = E at h
    cases h with
    | cons _ _ _ hne k =>
      subst hE
      have hk := Lib.decodeL_width (c ++ l)
      have hle := Lib.decodeL_le (c ++ l) hne
      have hln := k.len
      rw [List.length_drop] at hln
      rw [List.length_append] at hle hln
      have hcl : 0 < (c ++ l).length := List.length_pos_iff.2 hne
      rw [List.length_append] at hcl
      have hkc : (Lib.decodeL (c ++ l)).2 ≤ c.length := by omega
      have hc : c ≠ [] := by
        intro e
        have h0 : c.length = 0 := by rw [e]; rfl
        omega
      have hd := dec_cut c X l hc hX hkc
      rw [rs_step (c ++ X) (by simp [hc]), hd, List.drop_append_of_le_length hkc]
      rw [List.drop_append_of_le_length hkc] at k
      rw [ih _ _ k X hX, List.cons_append]
theorem rs_app (l X : Bs) (hX : noc X) : rs (l ++ X) = rs l ++ rs X := run_cut (rs l) l [] (by rw [List.append_nil]; exact run_all _ l (Nat.le_refl _)) X hX

/-- Words with one blank between them. -/
def fw (p : Nat → Bool) : Bool → Bool → List Nat → List Nat
  | _, _, [] => []
  | st, g, r :: L => if p r then fw p st true L else (if g && st then [32] else []) ++ r :: fw p true false L
theorem enc32 : enc 32 = [32] := by decide
theorem rs_32 (Z : Bs) : rs (32 :: Z) = 32 :: rs Z := by
  have := rs_enc 32 (by unfold vr; omega) Z
  rw [enc32] at this
  exact this
theorem noc_tail (fs : List Bs) : noc (Lib.joinTail [32] fs) := by
  cases fs with
  | nil => trivial
  | cons f fs => show (32 : UInt8).toNat / 64 ≠ 2; decide
theorem take_ne (l : Bs) (k : Nat) (h : l ≠ []) (hk : 1 ≤ k) : l.take k ≠ [] := by
  cases l with
  | nil => exact absurd rfl h
  | cons a t =>
    cases k with
    | zero => omega
    | succ k => simp
theorem tail_cons (f : Bs) (fs : List Bs) : Lib.joinTail [32] (f :: fs) = 32 :: (f ++ Lib.joinTail [32] fs) := by
  simp [Lib.joinTail]
theorem fld_words (p : Nat → Bool) : ∀ (n : Nat) (l : Bs), l.length ≤ n →
    (∀ c L, c ≠ [] → Run (c ++ l) L l → ∃ f fs, fldP p n c l = f :: fs ∧ rs (f ++ Lib.joinTail [32] fs) = L ++ fw p true false (rs l)) ∧
    rs (Lib.joinTail [32] (fldP p n [] l)) = fw p true true (rs l) := by
  intro n
  have base : ∀ n (l : Bs), l = [] → 
      (∀ c L, c ≠ [] → Run (c ++ l) L l → ∃ f fs, fldP p n c l = f :: fs ∧ rs (f ++ Lib.joinTail [32] fs) = L ++ fw p true false (rs l)) ∧
      rs (Lib.joinTail [32] (fldP p n [] l)) = fw p true true (rs l) := by
    intro n l h
    subst h
    constructor
    · intro c L hc hr
      refine ⟨c, [], by rw [fldP_nil, if_neg hc], ?_⟩
      exact run_cut L c [] hr [] trivial
    · rw [fldP_nil, if_pos rfl]; rfl
  induction n with
  | zero => intro l h; exact base 0 l (List.eq_nil_of_length_eq_zero (by omega))
  | succ n ih =>
    intro l h
    by_cases hne : l = []
    · exact base _ l hne
    · have hw := Lib.decodeL_width l
      have hl : 0 < l.length := List.length_pos_iff.2 hne
      obtain ⟨i1, i2⟩ := ih (l.drop (Lib.decodeL l).2) (by rw [List.length_drop]; omega)
      rw [rs_step l hne]
      cases hp : p (Lib.decodeL l).1 with
      | true =>
        constructor
        · intro c L hc hr
          refine ⟨c, fldP p n [] (l.drop (Lib.decodeL l).2), by simp only [fldP, if_neg hne, hp, if_true, if_neg hc, List.cons_append, List.nil_append], ?_⟩
          rw [run_cut L c l hr _ (noc_tail _), i2]
          simp only [fw, hp, if_true]
        · simp only [fldP, if_neg hne, hp, if_true, List.nil_append, fw]
          exact i2
      | false =>
        constructor
        · intro c L hc hr
          obtain ⟨f, fs, h1, h2⟩ := i1 (c ++ l.take (Lib.decodeL l).2) (L ++ [(Lib.decodeL l).1]) (by simp [hc]) (by rw [List.append_assoc, List.take_append_drop]; exact hr.snoc hne)
          refine ⟨f, fs, ?_, ?_⟩
          · simp only [fldP, if_neg hne, hp, Bool.false_eq_true, if_false]; exact h1
          · rw [h2]; simp [fw, hp]
        · obtain ⟨f, fs, h1, h2⟩ := i1 (l.take (Lib.decodeL l).2) [(Lib.decodeL l).1] (take_ne l _ hne hw) (by rw [List.take_append_drop]; exact (Run.nil l).snoc hne)
          simp only [fldP, if_neg hne, hp, Bool.false_eq_true, if_false, List.nil_append, h1]
          rw [tail_cons, rs_32, h2]
          simp [fw, hp]
theorem fld_join (p : Nat → Bool) : ∀ (n : Nat) (l : Bs) (g : Bool), l.length ≤ n → rs (Lib.join (fldP p n [] l) [32]) = fw p false g (rs l)
  | 0, l, g, h => by
    have : l = [] := List.eq_nil_of_length_eq_zero (by omega)
    subst this; rw [fldP_nil, if_pos rfl]; rfl
  | n + 1, l, g, h => by
    by_cases hne : l = []
    · subst hne; rw [fldP_nil, if_pos rfl]; rfl
    · have hw := Lib.decodeL_width l
      have hl : 0 < l.length := List.length_pos_iff.2 hne
      rw [rs_step l hne]
      cases hp : p (Lib.decodeL l).1 with
      | true =>
        simp only [fldP, if_neg hne, hp, if_true, List.nil_append, fw]
        exact fld_join p n _ true (by rw [List.length_drop]; omega)
      | false =>
        obtain ⟨f, fs, h1, h2⟩ := (fld_words p n (l.drop (Lib.decodeL l).2) (by rw [List.length_drop]; omega)).1 (l.take (Lib.decodeL l).2) [(Lib.decodeL l).1] (take_ne l _ hne hw) (by rw [List.take_append_drop]; exact (Run.nil l).snoc hne)
        simp only [fldP, if_neg hne, hp, Bool.false_eq_true, if_false, List.nil_append, h1]
        rw [Lib.join_cons, h2]
        simp [fw, hp]

/-- A small letter's number. -/
def smN (r : Nat) : Nat := (smallI r).toNat
theorem smN_eq (r : Nat) : smallI r = (smN r : Int) := by unfold smN smallI; split <;> (try split) <;> omega
theorem smN_vr (r : Nat) (h : vr r) : vr (smN r) := by
  have := smN_eq r
  unfold vr at *
  unfold smallI at this
  split at this <;> (try split at this) <;> omega
theorem mapD_rs : ∀ (n : Nat) (l : Bs), l.length ≤ n → Lib.mapD smallI l = (rs l).flatMap (fun r => enc (smN r))
  | 0, l, h => by
    have : l = [] := List.eq_nil_of_length_eq_zero (by omega)
    subst this; rfl
  | n + 1, l, h => by
    by_cases hne : l = []
    · subst hne; rfl
    · have hw := Lib.decodeL_width l
      have hl : 0 < l.length := List.length_pos_iff.2 hne
      rw [Lib.mapD_step _ l hne, rs_step l hne, List.flatMap_cons, mapD_rs n _ (by rw [List.length_drop]; omega), smN_eq, if_pos (by omega)]
      rfl
theorem toU_eq (z : Int) (c : UInt8) (h0 : 0 ≤ z) (h : z < 256) : z.toNat.toUInt8 = c ↔ z = (c.toNat : Int) := by
  constructor
  · intro e
    have := congrArg UInt8.toNat e
    rw [toU z h0 h] at this
    omega
  · intro e
    apply UInt8.toNat_inj.1
    rw [toU z h0 h]
    omega
/-- What a character becomes at last. -/
def sz2 (r : Nat) : Bs := if r = 223 ∨ r = 7838 then [115, 115] else enc r
theorem hit_ne (c : UInt8) (l : Bs) (h1 : c ≠ 195) (h2 : c ≠ 225) : hit c l = false := by
  unfold hit
  rw [beq_false_of_ne h1, beq_false_of_ne h2]; rfl
theorem skip_tail (z : Int) (t : Bs) (h0 : 128 ≤ z) (h : z < 192) : rpl (z.toNat.toUInt8 :: t) = z.toNat.toUInt8 :: rpl t :=
  rpl_skip _ _ (hit_ne _ _ (fun e => by have := (toU_eq z 195 (by omega) (by omega)).1 e; simp at this; omega) (fun e => by have := (toU_eq z 225 (by omega) (by omega)).1 e; simp at this; omega))
theorem rpl_enc (r : Nat) (h : vr r) (t : Bs) : rpl (enc r ++ t) = sz2 r ++ rpl t := by
  unfold vr at h
  unfold sz2 enc Lib.encodeRune
  by_cases h1 : r ≤ 127
  · rw [Lib.encodeRuneZ_one (by omega) (by omega), if_neg (by omega)]
    simp only [List.map_cons, List.map_nil, List.cons_append, List.nil_append]
    exact rpl_skip _ _ (hit_ne _ _ (fun e => by have := (toU_eq r 195 (by omega) (by omega)).1 e; simp at this; omega) (fun e => by have := (toU_eq r 225 (by omega) (by omega)).1 e; simp at this; omega))
  · by_cases h2 : r ≤ 2047
    · rw [Lib.encodeRuneZ_two (by omega) (by omega)]
      simp only [List.map_cons, List.map_nil, List.cons_append, List.nil_append]
      by_cases hr : r = 223
      · subst hr
        rw [if_pos (by omega)]
        show rpl (195 :: 159 :: t) = _
        rw [rpl_cons, if_pos ⟨rfl, by simp [List.isPrefixOf]⟩]
        rfl
      · rw [if_neg (by omega), rpl_skip _ _ ?_, skip_tail _ _ (by omega) (by omega)]
        · rfl
        · unfold hit
          have e2 : ((192 + (r : Int) / 64).toNat.toUInt8 == (225 : UInt8)) = false := beq_false_of_ne (fun e => by have := (toU_eq _ 225 (by omega) (by omega)).1 e; simp at this; omega)
          rw [e2]
          by_cases hc : (192 + (r : Int) / 64) = 195
          · have e3 : ((159 : UInt8) == (128 + (r : Int) % 64).toNat.toUInt8) = false := beq_false_of_ne (fun e => by have := (toU_eq _ 159 (by omega) (by omega)).1 e.symm; simp at this; omega)
            simp only [List.isPrefixOf, e3, Bool.false_and, Bool.and_false, Bool.or_self]
          · have e1 : ((192 + (r : Int) / 64).toNat.toUInt8 == (195 : UInt8)) = false := beq_false_of_ne (fun e => hc (by have := (toU_eq _ 195 (by omega) (by omega)).1 e; simpa using this))
            rw [e1]; rfl
    · by_cases h3 : r ≤ 65535
      · rw [Lib.encodeRuneZ_three (by omega)]
        simp only [List.map_cons, List.map_nil, List.cons_append, List.nil_append]
        by_cases hr : r = 7838
        · subst hr
          rw [if_pos (by omega)]
          show rpl (225 :: 186 :: 158 :: t) = _
          rw [rpl_cons, if_neg (by intro e; exact absurd e.1 (by decide)), if_pos ⟨rfl, by simp [List.isPrefixOf]⟩]
          rfl
        · rw [if_neg (by omega), rpl_skip _ _ ?_, skip_tail _ _ (by omega) (by omega), skip_tail _ _ (by omega) (by omega)]
          · rfl
          · unfold hit
            have e2 : ((224 + (r : Int) / 4096).toNat.toUInt8 == (195 : UInt8)) = false := beq_false_of_ne (fun e => by have := (toU_eq _ 195 (by omega) (by omega)).1 e; simp at this; omega)
            rw [e2]
            by_cases hc : (224 + (r : Int) / 4096) = 225
            · by_cases hd : (128 + (r : Int) / 64 % 64) = 186
              · have e3 : ((158 : UInt8) == (128 + (r : Int) % 64).toNat.toUInt8) = false := beq_false_of_ne (fun e => by have := (toU_eq _ 158 (by omega) (by omega)).1 e.symm; simp at this; omega)
                simp only [List.isPrefixOf, e3, Bool.false_and, Bool.and_false, Bool.or_self]
              · have e3 : ((186 : UInt8) == (128 + (r : Int) / 64 % 64).toNat.toUInt8) = false := beq_false_of_ne (fun e => hd (by have := (toU_eq _ 186 (by omega) (by omega)).1 e.symm; simpa using this))
                simp only [List.isPrefixOf, e3, Bool.false_and, Bool.and_false, Bool.or_self]
            · have e1 : ((224 + (r : Int) / 4096).toNat.toUInt8 == (225 : UInt8)) = false := beq_false_of_ne (fun e => hc (by have := (toU_eq _ 225 (by omega) (by omega)).1 e; simpa using this))
              rw [e1]; rfl
      · rw [Lib.encodeRuneZ_four (by omega) (by omega), if_neg (by omega)]
        simp only [List.map_cons, List.map_nil, List.cons_append, List.nil_append]
        rw [rpl_skip _ _ (hit_ne _ _ (fun e => by have := (toU_eq _ 195 (by omega) (by omega)).1 e; simp at this; omega) (fun e => by have := (toU_eq _ 225 (by omega) (by omega)).1 e; simp at this; omega)), skip_tail _ _ (by omega) (by omega), skip_tail _ _ (by omega) (by omega), skip_tail _ _ (by omega) (by omega)]
theorem rpl_encs : ∀ (L : List Nat), (∀ r ∈ L, vr r) → rpl (L.flatMap enc) = L.flatMap sz2
  | [], _ => rpl_nil
  | r :: L, h => by rw [List.flatMap_cons, rpl_enc r (h r (by simp)), rpl_encs L (fun x hx => h x (by simp [hx])), List.flatMap_cons]

def spN (r : Nat) : Bool := spaceI (r : Int)
/-- What a character is made of in a label. -/
def sm (r : Nat) : Bs := sz2 (smN r)
theorem fw_sub (p : Nat → Bool) : ∀ (L : List Nat) (st g : Bool), ∀ x ∈ fw p st g L, x = 32 ∨ (x ∈ L ∧ p x = false)
  | [], _, _, x, h => by cases h
  | r :: L, st, g, x, h => by
    unfold fw at h
    cases hp : p r with
    | true =>
      rw [hp, if_pos rfl] at h
      rcases fw_sub p L st true x h with e | ⟨e, e2⟩
      · exact .inl e
      · exact .inr ⟨by simp [e], e2⟩
    | false =>
      rw [hp, if_neg (by simp)] at h
      rcases List.mem_append.1 h with h | h
      · split at h
        · exact .inl (by simpa using h)
        · cases h
      · rcases List.mem_cons.1 h with e | h
        · subst e; exact .inr ⟨by simp, hp⟩
        · rcases fw_sub p L true false x h with e | ⟨e, e2⟩
          · exact .inl e
          · exact .inr ⟨by simp [e], e2⟩
/-- Fold, by characters. -/
def foldM (L : List Nat) : Bs := (fw spN false false L).flatMap sm
theorem foldB_eq (l : Bs) : foldB (sv l) = foldM (rs l) := by
  unfold foldB foldM
  have h1 := goFieldsP_eq spN (sv l)
  have h2 := fld_join spN l.length l false (Nat.le_refl _)
  have h1' : (Lib.goFieldsP (fun x => spaceI (x : Int)) (sv l)).map (·.data.toList) = fldP spN l.length [] l := h1
  rw [h1', mapD_rs _ _ (Nat.le_refl _), h2]
  have hv : ∀ x ∈ fw spN false false (rs l), vr x := by
    intro x hx
    rcases fw_sub _ _ _ _ x hx with e | ⟨e, _⟩
    · subst e; unfold vr; omega
    · exact rs_vr _ l (Nat.le_refl _) x e
  have : (fw spN false false (rs l)).flatMap (fun r => enc (smN r)) = ((fw spN false false (rs l)).map smN).flatMap enc := by rw [List.flatMap_map]
  rw [this, rpl_encs, List.flatMap_map]
  · rfl
  · intro x hx
    obtain ⟨y, hy, rfl⟩ := List.mem_map.1 hx
    exact smN_vr y (hv y hy)

/-! ### again -/
/-- What a character is made of, as characters. -/
def sr (r : Nat) : List Nat := if smN r = 223 ∨ smN r = 7838 then [115, 115] else [smN r]
theorem enc115 : enc 115 = [115] := by decide
theorem sm_sr (r : Nat) : sm r = (sr r).flatMap enc := by
  unfold sm sz2 sr
  split
  · simp [List.flatMap_cons, enc115]
  · simp [List.flatMap_cons]
theorem smN_val (r : Nat) : smN r = if 65 ≤ r ∧ r ≤ 90 ∨ (192 ≤ r ∧ r ≤ 222 ∧ r ≠ 215) ∨ 913 ≤ r ∧ r ≤ 937 ∨ 1040 ≤ r ∧ r ≤ 1071 then r + 32 else if 1024 ≤ r ∧ r ≤ 1039 then r + 80 else r := by
  have := smN_eq r
  unfold smallI at this
  split at this
  · rw [if_pos (by omega)]; omega
  · split at this
    · rw [if_neg (by omega), if_pos (by omega)]; omega
    · rw [if_neg (by omega), if_neg (by omega)]; omega
theorem smN_smN (r : Nat) : smN (smN r) = smN r := by
  rw [smN_val (smN r)]
  have := smN_val r
  split at this
  · rw [if_neg (by omega), if_neg (by omega)]
  · split at this
    · rw [if_neg (by omega), if_neg (by omega)]
    · rw [if_neg (by omega), if_neg (by omega)]
theorem spN_false {r : Nat} : spN r = false ↔ ¬ (r = 9 ∨ r = 10 ∨ r = 12 ∨ r = 13 ∨ r = 32 ∨ r = 160 ∨ r = 5760 ∨ r = 8239 ∨ r = 8287 ∨ r = 12288 ∨ (8192 ≤ r ∧ r ≤ 8202)) := by
  unfold spN spaceI
  simp
  omega
theorem spN_smN (r : Nat) (h : spN r = false) : spN (smN r) = false := by
  rw [spN_false] at *
  have := smN_val r
  split at this <;> (try split at this) <;> omega
theorem sr_words (r : Nat) (h : spN r = false) : ∃ x t, sr r = x :: t ∧ spN x = false ∧ ∀ y ∈ t, spN y = false := by
  unfold sr
  split
  · exact ⟨115, [115], rfl, by decide, by decide⟩
  · exact ⟨_, [], rfl, spN_smN r h, by simp⟩
theorem sr_32 : sr 32 = [32] := by decide
theorem fw_word (p : Nat → Bool) : ∀ (t : List Nat), (∀ y ∈ t, p y = false) → ∀ Z, fw p true false (t ++ Z) = t ++ fw p true false Z
  | [], _, Z => rfl
  | y :: t, h, Z => by
    have hy := h y (by simp)
    simp only [List.cons_append, fw, hy, Bool.false_eq_true, if_false, Bool.false_and, List.nil_append]
    rw [fw_word p t (fun x hx => h x (by simp [hx]))]
theorem fw_again : ∀ (L : List Nat) (st g : Bool), fw spN st false ((fw spN st g L).flatMap sr) = (fw spN st g L).flatMap sr
  | [], _, _ => rfl
  | r :: L, st, g => by
    cases hp : spN r with
    | true => simp only [fw, hp, if_true]; exact fw_again L st true
    | false =>
      obtain ⟨x, t, hx, hxs, ht⟩ := sr_words r hp
      have ih := fw_again L true false
      have key : fw spN true false (t ++ (fw spN true false L).flatMap sr) = t ++ (fw spN true false L).flatMap sr := by rw [fw_word spN t ht, ih]
      have h32 : spN 32 = true := by decide
      cases st <;> cases g <;> simp only [fw, hp, Bool.false_eq_true, if_false, if_true, Bool.and_false, Bool.and_true, Bool.and_self, Bool.false_and, List.nil_append, List.cons_append, List.flatMap_cons, hx, sr_32, hxs, h32] <;> rw [key]
theorem sr_vr (r : Nat) (h : vr r) : ∀ x ∈ sr r, vr x := by
  unfold sr
  split
  · intro x hx; simp at hx; subst hx; unfold vr; omega
  · intro x hx; simp at hx; subst hx; exact smN_vr r h
theorem sm_again (r : Nat) : ∀ x ∈ sr r, sm x = enc x := by
  unfold sr
  split
  · intro x hx; simp at hx; subst hx; decide
  · next h =>
    intro x hx; simp at hx; subst hx
    unfold sm sz2
    rw [smN_smN, if_neg h]
theorem flat_congr {α β : Type} (f g : α → List β) : ∀ L : List α, (∀ x ∈ L, f x = g x) → L.flatMap f = L.flatMap g
  | [], _ => rfl
  | x :: L, h => by rw [List.flatMap_cons, List.flatMap_cons, h x (by simp), flat_congr f g L (fun y hy => h y (by simp [hy]))]
theorem foldM_sr (L : List Nat) : foldM L = ((fw spN false false L).flatMap sr).flatMap enc := by
  unfold foldM
  rw [List.flatMap_assoc]
  exact flat_congr _ _ _ (fun x _ => sm_sr x)
theorem foldM_again (L : List Nat) (h : ∀ r ∈ L, vr r) : foldM (rs (foldM L)) = foldM L := by
  have hv : ∀ x ∈ (fw spN false false L).flatMap sr, vr x := by
    intro x hx
    obtain ⟨y, hy, hx⟩ := List.mem_flatMap.1 hx
    refine sr_vr y ?_ x hx
    rcases fw_sub _ _ _ _ y hy with e | ⟨e, _⟩
    · subst e; unfold vr; omega
    · exact h y e
  have e1 : rs (foldM L) = (fw spN false false L).flatMap sr := by
    have := rs_encs _ hv []
    rw [List.append_nil, rs_nil, List.append_nil] at this
    rw [foldM_sr]; exact this
  rw [e1]
  unfold foldM
  rw [fw_again]
  have := foldM_sr L
  unfold foldM at this
  rw [this]
  refine flat_congr _ _ _ (fun x hx => ?_)
  obtain ⟨y, hy, hx⟩ := List.mem_flatMap.1 hx
  exact sm_again y x hx
theorem fw_first (p : Nat → Bool) : ∀ (L : List Nat) (g h : Bool), fw p false g L = fw p false h L
  | [], _, _ => rfl
  | r :: L, g, h => by
    cases hp : p r with
    | true => simp only [fw, hp, if_true]
    | false => simp only [fw, hp, Bool.false_eq_true, if_false, Bool.and_false]
theorem fw_last (p : Nat → Bool) (S : List Nat) (hS : ∀ y ∈ S, p y = true) : ∀ (L : List Nat) (st g : Bool), fw p st g (L ++ S) = fw p st g L
  | [], st, g => by
    show fw p st g S = []
    induction S generalizing g with
    | nil => rfl
    | cons y S ih =>
      have hy := hS y (by simp)
      simp only [fw, hy, if_true]
      exact ih (fun x hx => hS x (by simp [hx])) _
  | r :: L, st, g => by
    cases hp : p r with
    | true => simp only [List.cons_append, fw, hp, if_true]; exact fw_last p S hS L st true
    | false => simp only [List.cons_append, fw, hp, Bool.false_eq_true, if_false]; rw [fw_last p S hS L true false]
theorem foldM_ends (l : Bs) : foldM (rs (32 :: 9 :: (l ++ [10, 32]))) = foldM (rs l) := by
  have e9 : ∀ Z, rs (9 :: Z) = 9 :: rs Z := fun Z => by
    have := rs_enc 9 (by unfold vr; omega) Z
    rw [show enc 9 = [9] by decide] at this
    exact this
  have hX : rs [10, 32] = [10, 32] := by decide
  rw [rs_32, e9, rs_app l [10, 32] (by show (10 : UInt8).toNat / 64 ≠ 2; decide), hX]
  unfold foldM
  have h32 : spN 32 = true := by decide
  have h9 : spN 9 = true := by decide
  have e : fw spN false false (32 :: 9 :: (rs l ++ [10, 32])) = fw spN false true (rs l ++ [10, 32]) := by simp only [fw, h32, h9, if_true]
  rw [e, fw_last spN [10, 32] (by decide), fw_first spN _ true false]
end Go.Proofs.YtokojeiiobhciaaGreatDoor
