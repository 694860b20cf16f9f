/-
  RunesLines' walk.
-/
import Derived.Test.YtokojeiiobhciaaDoorWl
namespace Go.Proofs.YtokojeiiobhciaaDoor
open Go.RowKit Mem
set_option linter.unusedVariables false
set_option linter.unusedSimpArgs false

theorem wrap64_small (x : Int) (h0 : 0 ≤ x) (h : x ≤ 4294967296) : wrap64 x = x := by unfold wrap64; omega
theorem lnN_len : ∀ (n : Nat) (l : Bs), (lnN n l).length ≤ l.length
  | 0, l => Nat.zero_le _
  | n + 1, [] => Nat.le_refl _
  | n + 1, c :: l => by
    unfold lnN
    split
    · simp
    · next hi =>
      have h1 := lnN_len n (restB ((c :: l).drop (iaV (c :: l)).toNat))
      have h2 := restB_len ((c :: l).drop (iaV (c :: l)).toNat)
      rw [List.length_drop] at h2
      simp only [List.length_cons] at h2 ⊢
      omega
theorem row_view {w : World} {base : Nat} {v : Value} {L : List Bs} (h : w.ownsRow base 9 1 v L.length (strs L)) :
    ∃ A c, v = .slice A L.length c ∧ L.length ≤ c ∧ c ≤ maxLen ∧ ∀ (j : Nat) (x : Bs), L[j]? = some x → ∃ g cur, A = some ⟨g, 0, none⟩ ∧ base ≤ g ∧ Blk w g cur 9 ∧ cur[j]? = some (.string (sv x)) := by
  rcases own_cases h with ⟨rfl, h0, _⟩ | ⟨g, cap, cur, rfl, hg, hB, hn, hc, hs, hx⟩
  · have : L = [] := List.eq_nil_of_length_eq_zero h0
    subst this
    exact ⟨none, 0, rfl, Nat.le_refl _, Nat.zero_le _, fun j x hj => by simp at hj⟩
  · refine ⟨_, cap, rfl, hn, hc, fun j x hj => ⟨g, cur, rfl, hg, hB, ?_⟩⟩
    have hj2 : j < L.length := (List.getElem?_eq_some_iff.1 hj).1
    have : (strs L)[j]? = some (.string (sv x)) := by simp [strs, hj]
    rw [← hx, List.getElem?_take_of_lt (by omega)] at this
    simpa using this
/-- The rows from a place on: the document's stays; the program's is being turned. -/
def Two (L : List Bs) (Aw Al : Option Addr) (hb i : Nat) (w : World) : Prop :=
  (∀ (j : Nat) (x : Bs), L[j]? = some x → ∃ g cur, Aw = some ⟨g, 0, none⟩ ∧ g < hb ∧ Blk w g cur 9 ∧ cur[j]? = some (.string (sv x))) ∧
  ∀ (j : Nat) (x : Bs), i ≤ j → L[j]? = some x → ∃ g cur, Al = some ⟨g, 0, none⟩ ∧ hb ≤ g ∧ Blk w g cur 9 ∧ cur[j]? = some (.string (sv x))
set_option maxRecDepth 100000 in
set_option maxHeartbeats 3200000 in
theorem runesLines_walk (s : Bs) (hs : s.length ≤ 1048576) (w : World) (hT : Lib.Utf8Tabs 1 2 w) :
    Calls Tryd.prog 3 #[.string (sv s)] w fun e w' => e = .returned (.bool true) ∧ Mod (fun _ => False) w w' := by
  have hrl := fun w => rlines_any s (by omega) w
  have hpl := fun w => lines_any s (by omega) w
  obtain ⟨L, hL⟩ : ∃ L, lnl s = L := ⟨_, rfl⟩
  have hLl : L.length ≤ 1048576 := by rw [← hL]; exact Nat.le_trans (lnN_len _ s) hs
  simp only [hL] at hrl hpl
  clear hL
  go_enter Tryd.func3, Tryd.ntmps3
  go_wp2_with (fail)
  refine (shown_any w hT).mono ?_
  rintro e w1 ⟨rfl, hm1⟩
  go_wp2_with (fail)
  refine (hrl _).mono ?_
  rintro e w2 ⟨vw, rfl, how, hm2⟩
  obtain ⟨Aw, cw, rfl, hcw1, hcw2, hW⟩ := row_view how
  have HM2 := Lib.hid (hm1.trans hm2 (fun _ h => h.elim))
  have HW := Lib.hid hW
  clear hW how hm1 hm2
  go_wp2_with (fail)
  go_loopw [5] (fun v4 wr => ∃ t : Nat, v4 = .int .i64 (t : Int) ∧ t ≤ 2 ∧ Hid (Mod (fun _ => False) w wr) ∧ Hid (∀ (j : Nat) (x : Bs), L[j]? = some x → ∃ g cur, Aw = some ⟨g, 0, none⟩ ∧ Blk wr g cur 9 ∧ cur[j]? = some (.string (sv x)))) (fun i _ => 2 - (iOf' i).toNat)
  case atStart => exact ⟨0, rfl, by omega, HM2, Lib.hid (fun j x hj => by obtain ⟨g, cur, h1, _, h2, h3⟩ := HW.out j x hj; exact ⟨g, cur, h1, h2, h3⟩)⟩
  case round =>
    obtain ⟨t, rfl, ht, hm, hWr⟩ := hrel
    obtain ⟨w8, rfl⟩ : ∃ w8, w8 = wr := ⟨_, rfl⟩
    by_cases h2 : t < 2
    · have q1 : (t : Int) < 2 := by omega
      clear HW HM2
      go_wp2_with (fail)
      refine (hpl _).mono ?_
      rintro e w3 ⟨vl, rfl, hol, hm3⟩
      obtain ⟨Al, cl, rfl, hcl1, hcl2, hLr⟩ := row_view hol
      have HT : Hid (Two L Aw Al w8.heap.size 0 w3) := Lib.hid ⟨fun j x hj => by obtain ⟨g, cur, h1, h2, h3⟩ := hWr.out j x hj; exact ⟨g, cur, h1, h2.lt, h2.mod hm3 (fun h => h), h3⟩, fun j x _ hj => hLr j x hj⟩
      have HM := Lib.hid (hm.out.trans hm3 (fun _ h => h.elim))
      have hsz := hm.out.size
      clear hLr hol hm3 hm hWr
      go_wp2_with (fail)
      go_loopw [7] (fun v6 wx => ∃ i : Nat, v6 = .int .i64 (i : Int) ∧ i ≤ L.length ∧ Hid (Two L Aw Al w8.heap.size i wx) ∧ Hid (Mod (fun _ => False) w wx)) (fun i _ => L.length - (iOf' i).toNat)
      case atStart => exact ⟨0, rfl, by omega, HT, HM⟩
      case round =>
        obtain ⟨i, rfl, hi, hTw, hmy⟩ := hrel
        by_cases hlt : i < L.length
        · have q2 : (i : Int) < (L.length : Int) := by omega
          obtain ⟨x, hx⟩ : ∃ x, L[i]? = some x := ⟨_, List.getElem?_eq_getElem hlt⟩
          obtain ⟨gw, cuw, rfl, hgw, hBw, hcw⟩ := hTw.out.1 i x hx
          obtain ⟨gl, cul, rfl, hgl, hBl, hcl⟩ := hTw.out.2 i x (Nat.le_refl _) hx
          have e1 : wr.cell? ⟨gw, i, none⟩ = some (.string (sv x)) := (hBw.cell i).trans hcw
          have e2 : wr.cell? ⟨gl, i, none⟩ = some (.string (sv x)) := (hBl.cell i).trans hcl
          have e3 := hBl.frozen i
          have t1 : (sv x).toList = x := sv_toList x
          have hi0 := hLl
          clear hcw1 hcw2 hcl1 hcl2
          have HT2 : Hid (Two L (some ⟨gw, 0, none⟩) (some ⟨gl, 0, none⟩) w8.heap.size (i + 1) (wr.setCell ⟨gl, i, none⟩ (.string ⟨#[63]⟩))) := Lib.hid ⟨fun j y hj => by
              obtain ⟨g, cur, h1, h2, h3, h4⟩ := hTw.out.1 j y hj
              exact ⟨g, cur, h1, h2, h3.far (p := ⟨gl, i, none⟩) (by show g ≠ gl; omega) _, h4⟩, fun j y hij hj => by
              obtain ⟨g, cur, h1, h2, h3, h4⟩ := hTw.out.2 j y (by omega) hj
              have hg : g = gl := by injection h1 with h1; injection h1 with h1; exact h1.symm
              subst hg
              exact ⟨g, _, h1, h2, h3.set i _, by rw [Array.getElem?_setIfInBounds, if_neg (by omega)]; exact h4⟩⟩
          have HM2 : Hid (Mod (fun _ => False) w (wr.setCell ⟨gl, i, none⟩ (.string ⟨#[63]⟩))) := Lib.hid (hmy.out.setCell (p := ⟨gl, i, none⟩) (.inr (by show w.heap.size ≤ gl; omega)) _)
          clear hBw hBl hTw hmy
          go_wp2_with (fail)
          go_region
          go_wp2_with (fail)
          refine ⟨⟨i + 1, by simp, by omega, Lib.hid ?_, Lib.hid HM2.out.drew⟩, ?_⟩
          · exact ⟨fun j y hj => by
              obtain ⟨g, cur, h1, h2, h3, h4⟩ := HT2.out.1 j y hj
              exact ⟨g, cur, h1, h2, h3.drew, h4⟩, fun j y hij hj => by
              obtain ⟨g, cur, h1, h2, h3, h4⟩ := HT2.out.2 j y hij hj
              exact ⟨g, cur, h1, h2, h3.drew, h4⟩⟩
          · show L.length - ((i : Int) + 1).toNat < L.length - (i : Int).toNat
            omega
        · have q2 : ¬ (i : Int) < (L.length : Int) := by omega
          have HW2 : Hid (∀ (j : Nat) (x : Bs), L[j]? = some x → ∃ g cur, Aw = some ⟨g, 0, none⟩ ∧ Blk wr g cur 9 ∧ cur[j]? = some (.string (sv x))) := Lib.hid fun j x hj => by
            obtain ⟨g, cur, h1, h2, h3, h4⟩ := hTw.out.1 j x hj
            exact ⟨g, cur, h1, h3, h4⟩
          clear hTw HT
          go_wp2_with (fail)
          refine ⟨⟨t + 1, by simp, by omega, hmy, HW2⟩, ?_⟩
          show 2 - ((t : Int) + 1).toNat < 2 - (t : Int).toNat
          omega
    · have q1 : ¬ (t : Int) < 2 := by omega
      have HM3 := Lib.hid hm.out
      clear HW hm hWr
      go_wp2_with (fail)
      go_ret
      exact ⟨rfl, HM3.out⟩
theorem runesLines_str (a : ByteArray) (hs : a.data.toList.length ≤ 1048576) (w : World) (hT : Lib.Utf8Tabs 1 2 w) :
    Calls Tryd.prog 3 #[.string a] w fun e w' => e = .returned (.bool true) ∧ Mod (fun _ => False) w w' := by
  have h := runesLines_walk a.data.toList hs w hT
  rw [show sv a.data.toList = a by cases a; simp [sv]] at h
  exact h
end Go.Proofs.YtokojeiiobhciaaDoor
