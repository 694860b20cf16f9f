/-
  Lines.
-/
import Derived.Test.YtokojeiiobhciaaDoorIa
namespace Go.Proofs.YtokojeiiobhciaaDoor
open Go.RowKit Mem
set_option linter.unusedVariables false
set_option linter.unusedSimpArgs false

/-- What is left behind a line's end. -/
def restB (r : Bs) : Bs := if [13, 10].isPrefixOf r then r.drop 2 else r.drop 1
/-- A text's lines. -/
def lnN : Nat → Bs → List Bs
  | 0, _ => []
  | _, [] => []
  | n + 1, c :: l => if iaV (c :: l) < 0 then [c :: l] else ((c :: l).take (iaV (c :: l)).toNat) :: lnN n (restB ((c :: l).drop (iaV (c :: l)).toNat))
theorem lnN_nil (n : Nat) : lnN n [] = [] := by cases n <;> rfl
theorem restB_len (r : Bs) : (restB r).length ≤ r.length - 1 := by unfold restB; split <;> simp; omega
theorem lnN_fuel : ∀ (n m : Nat) (l : Bs), l.length ≤ n → l.length ≤ m → lnN n l = lnN m l := by
  intro n
  induction n with
  | zero => intro m l h _; have : l = [] := List.eq_nil_of_length_eq_zero (by omega); subst this; rw [lnN_nil, lnN_nil]
  | succ n ih =>
    intro m l h1 h2
    cases l with
    | nil => rw [lnN_nil, lnN_nil]
    | cons c l =>
      cases m with
      | zero => simp at h2
      | succ m =>
        have h3 := restB_len ((c :: l).drop (iaV (c :: l)).toNat)
        rw [List.length_drop] at h3
        simp only [List.length_cons] at h1 h2 h3
        unfold lnN
        rw [ih m _ (by omega) (by omega)]
def lnl (l : Bs) : List Bs := lnN l.length l
theorem lnl_nil : lnl [] = [] := rfl
theorem lnl_last (l : Bs) (h : l ≠ []) (hi : iaV l < 0) : lnl l = [l] := by
  cases l with
  | nil => exact absurd rfl h
  | cons c l => unfold lnl; show lnN (l.length + 1) (c :: l) = _; rw [lnN, if_pos hi]
theorem lnl_cut (l : Bs) (h : l ≠ []) (i : Nat) (hi : iaV l = (i : Int)) : lnl l = l.take i :: lnl (restB (l.drop i)) := by
  cases l with
  | nil => exact absurd rfl h
  | cons c l =>
    unfold lnl
    show lnN (l.length + 1) (c :: l) = _
    have h3 := restB_len ((c :: l).drop i)
    rw [List.length_drop] at h3
    simp only [List.length_cons] at h3
    rw [lnN, if_neg (by omega), hi, Int.toNat_natCast, lnN_fuel l.length _ _ (by omega) (Nat.le_refl _)]
theorem iaV_cases (l : Bs) : iaV l = -1 ∨ ∃ i : Nat, iaV l = (i : Int) ∧ i < l.length := by
  unfold iaV
  cases ha : l.all (fun x => !badV x) with
  | true => exact .inl (if_pos rfl)
  | false =>
    refine .inr ⟨_, if_neg (by simp), ?_⟩
    rw [List.all_eq_false] at ha
    obtain ⟨x, hx, hb⟩ := ha
    have := List.takeWhile_append_dropWhile (p := fun x => !badV x) (l := l)
    rcases Nat.lt_or_ge (l.takeWhile (fun x => !badV x)).length l.length with h | h
    · exact h
    · exfalso
      have hd : l.dropWhile (fun x => !badV x) = [] := by
        have e := congrArg List.length this
        rw [List.length_append] at e
        exact List.eq_nil_of_length_eq_zero (by omega)
      rw [hd, List.append_nil] at this
      rw [← this] at hx
      exact hb (List.all_eq_true.1 (List.all_takeWhile (p := fun x => !badV x) (l := l)) x hx)
def strs (ls : List Bs) : List Value := ls.map fun l => .string (sv l)
theorem strs_app (a b : List Bs) : strs (a ++ b) = strs a ++ strs b := List.map_append
set_option maxRecDepth 100000 in
set_option maxHeartbeats 3200000 in
theorem lines_any (s : Bs) (hs : s.length ≤ 4294967280) (w : World) :
    Calls Tryd.prog 9 #[.string (sv s)] w fun e w' => ∃ v, e = .returned v ∧ w'.ownsRow w.heap.size 9 1 v (lnl s).length (strs (lnl s)) ∧ Mod (fun _ => False) w w' := by
  have H0 := Lib.hid (World.ownsRow_nil w w.heap.size 9 1)
  go_enter Tryd.func9, Tryd.ntmps9
  go_wp2_with (fail)
  go_loopw [0, 3] (fun v0 v3 wr => ∃ (l : Bs) (pre : List Bs) (A : Option Addr) (k c : Nat), v0 = .string (sv l) ∧ v3 = .slice A k c ∧ Hid (wr.ownsRow w.heap.size 9 1 (.slice A k c) k (strs pre)) ∧ Hid (pre.length = k) ∧ Hid (pre ++ lnl l = lnl s) ∧ k + l.length ≤ s.length ∧ Hid (Mod (fun _ => False) w wr)) (fun v _ _ => match v with | .string b => b.size | _ => 0)
  case atStart => exact ⟨s, [], none, 0, 0, rfl, rfl, H0, Lib.hid rfl, Lib.hid rfl, by omega, Lib.hid (Mod.refl _ _)⟩
  case round =>
    obtain ⟨l, pre, A, k, c, rfl, rfl, hown, hpk, hE, hkl, hm⟩ := hrel
    by_cases hl0 : l = []
    · subst hl0
      have heq : (sv []).toList.isEmpty = true := by rw [sv_toList]; rfl
      go_wp2_with (fail)
      go_ret
      have e : pre = lnl s := by have := hE.out; rwa [lnl_nil, List.append_nil] at this
      refine ⟨_, rfl, ?_, hm.out⟩
      rw [← e, hpk.out]
      exact hown.out
    · have hne : (sv l).toList.isEmpty = false := by rw [sv_toList, List.isEmpty_eq_false_iff]; exact hl0
      have hlp : 1 ≤ l.length := by cases l with | nil => exact absurd rfl hl0 | cons => simp
      have hia := ia_any l (by omega) wr
      rcases iaV_cases l with hi | ⟨i, hi, hil⟩
      · rw [hi] at hia
        have hlast := lnl_last l hl0 (by omega)
        go_wp2_with (fail)
        refine hia.mono ?_
        rintro e w6 ⟨rfl, hm6⟩
        have M6 := hm.out.trans hm6 (fun _ h => h.elim)
        have hs6 := M6.size
        obtain ⟨A2, c2, w3, hr, ho3, hmA, _, _⟩ := el_s.app1 w.heap.size k (.slice A k c) (strs pre) (w6.alloc (.cells #[.string (sv l)] 9)) ((own_mod hown.out hm6 (fun _ _ h => h)).alloc _) w6.heap.size #[.string (sv l)] 1 (Blk.new _ _ _) rfl (by unfold maxLen; omega) (by omega) (by simp; rfl) (by simp; omega)
        have HH := Lib.hid (And.intro ho3 hmA)
        have HM := Lib.hid M6
        clear ho3 hmA hm6 M6
        go_wp2_with (at_builtin; refine wpList_append_run rfl _ _ 23 23 rfl _ _ rfl rfl hr ?_)
        go_ret
        obtain ⟨ho3, hmA⟩ := HH.out
        have e : pre ++ [l] = lnl s := by have := hE.out; rwa [hlast] at this
        have e2 : strs pre ++ #[Value.string (sv l)].toList = strs (lnl s) := by rw [← e, strs_app]; rfl
        have e3 : k + 1 = (lnl s).length := by rw [← e, List.length_append, hpk.out]; rfl
        rw [e2, e3] at ho3
        rw [e3]
        exact ⟨_, rfl, ho3, (HM.out.alloc _).trans hmA (fun i hi => .inr (own_lt hown.out hi).1)⟩
      · rw [hi] at hia
        have hcut := lnl_cut l hl0 i hi
        have hx1 : (sv l).extract 0 i = sv (l.take i) := by rw [sv_ext]; simp
        have hx2 : (sv l).extract i (sv l).size = sv (l.drop i) := by rw [sv_size, sv_ext]; simp
        have hx3 : (sv l).extract i l.length = sv (l.drop i) := by rw [sv_ext]; simp
        have hsz : ((sv l).size : Int) = (l.length : Int) := rfl
        have hil1 : (i : Int) ≤ (l.length : Int) := by omega
        have hi0 : ¬ (i : Int) < 0 := by omega
        go_wp2_with (fail)
        refine hia.mono ?_
        rintro e w6 ⟨rfl, hm6⟩
        have M6 := hm.out.trans hm6 (fun _ h => h.elim)
        have hs6 := M6.size
        obtain ⟨A2, c2, w3, hr, ho3, hmA, _, _⟩ := el_s.app1 w.heap.size k (.slice A k c) (strs pre) (w6.alloc (.cells #[.string (sv (l.take i))] 9)) ((own_mod hown.out hm6 (fun _ _ h => h)).alloc _) w6.heap.size #[.string (sv (l.take i))] 1 (Blk.new _ _ _) rfl (by unfold maxLen; omega) (by omega) (by simp; rfl) (by simp; omega)
        have hMA : Mod (fun _ => False) w w3 := (M6.alloc _).trans hmA (fun i hi => .inr (own_lt hown.out hi).1)
        have HH := Lib.hid ho3
        have HM := Lib.hid hMA
        have hhp := fun w => Tryd.strings_HasPrefix (sv (l.drop i)) ⟨#[13, 10]⟩ w
        obtain ⟨R, hR⟩ : ∃ R, l.drop i = R := ⟨_, rfl⟩
        rw [hR] at hhp hx2 hx3
        have hRl : R.length = l.length - i := by rw [← hR, List.length_drop]
        obtain ⟨B, hB⟩ : ∃ B, [13, 10].isPrefixOf R = B := ⟨_, rfl⟩
        have hhp2 : ∀ w, Calls Tryd.prog 17 #[.string (sv R), .string ⟨#[13, 10]⟩] w fun e w' => e = .returned (.bool B) ∧ w' = w := fun w => by rw [← hB]; exact hhp w
        have hRs : ((sv R).size : Int) = (R.length : Int) := rfl
        have hR1 : (1 : Int) ≤ (R.length : Int) := by omega
        clear ho3 hmA hm6 M6 hMA hhp
        go_wp2_with (at_builtin; refine wpList_append_run rfl _ _ 23 23 rfl _ _ rfl rfl hr ?_)
        refine (hhp2 _).mono ?_
        rintro e w7 ⟨rfl, rfl⟩
        have hr1 : (sv R).extract 1 (sv R).size = sv R.tail := by rw [sv_size, sv_ext]; simp
        have hE2 : Hid ((pre ++ [l.take i]) ++ lnl (restB R) = lnl s) := Lib.hid (by have := hE.out; rw [hcut, hR] at this; rw [← this]; simp)
        have hss : strs pre ++ #[Value.string (sv (l.take i))].toList = strs (pre ++ [l.take i]) := by rw [strs_app]; rfl
        have hpk2 : Hid ((pre ++ [l.take i]).length = k + 1) := Lib.hid (by rw [List.length_append, hpk.out]; rfl)
        have how2 : Hid (w7.ownsRow w.heap.size 9 1 (.slice A2 (k + 1) c2) (k + 1) (strs (pre ++ [l.take i]))) := Lib.hid (by rw [← hss]; exact HH.out)
        have hl1 : ((sv R.tail).size : Int) = (R.length : Int) - 1 := by rw [sv_size, List.length_tail]; omega
        have hl1n : (sv R.tail).size = R.length - 1 := by rw [sv_size, List.length_tail]
        cases B with
        | false =>
          have hrb : restB R = R.tail := by unfold restB; rw [hB]; exact List.drop_one
          rw [hrb] at hE2
          clear hB hcut hR hss hE HH
          go_wp2_with (fail)
          try rw [hr1]
          refine ⟨⟨R.tail, _, A2, k + 1, c2, rfl, rfl, how2, hpk2, hE2, by rw [List.length_tail]; omega, HM⟩, ?_⟩
          show (sv R.tail).size < (sv l).size
          rw [hl1n, sv_size]; omega
        | true =>
          have hrb : restB R = R.drop 2 := by unfold restB; rw [hB]; rfl
          have hR2 := (List.isPrefixOf_iff_prefix.1 hB).length_le
          simp only [List.length_cons, List.length_nil] at hR2
          have hR21 : (1 : Int) ≤ (R.length : Int) - 1 := by omega
          have hr2 : (sv R.tail).extract 1 (l.length - i - 1) = sv (R.drop 2) := by rw [show l.length - i - 1 = R.tail.length by rw [List.length_tail]; omega, sv_ext, List.take_length, ← List.drop_one, List.drop_drop]
          rw [hrb] at hE2
          clear hB hcut hR hss hE HH
          go_wp2_with (fail)
          try rw [hr1]
          try rw [hr2]
          refine ⟨⟨R.drop 2, _, A2, k + 1, c2, rfl, rfl, how2, hpk2, hE2, by rw [List.length_drop]; omega, HM⟩, ?_⟩
          show (sv (R.drop 2)).size < (sv l).size
          rw [sv_size, sv_size, List.length_drop]; omega
end Go.Proofs.YtokojeiiobhciaaDoor
