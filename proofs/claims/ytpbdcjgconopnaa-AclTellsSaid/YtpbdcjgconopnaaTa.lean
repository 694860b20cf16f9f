/-
  Rows of strings: texts, and both Tenants.
-/
import Derived.Test.YtpbdcjgconopnaaRe
import Derived.Test.YtpbdcjgconopnaaGi
namespace Go.Proofs.Ytpbdcjgconopnaa
open Go.RowKit Mem
set_option linter.unusedVariables false

/-- A slice of strings that reads as a list. -/
def Sr (w : World) (v : Value) (l : List Bs) : Prop := (v = .slice none 0 0 ∧ l = []) ∨ ∃ ad c, v = .slice (some ad) l.length c ∧ l.length ≤ c ∧ c ≤ maxLen ∧ ∀ i (h : i < l.length), w.cell? (ad.add i) = some (.string (sv l[i]))
theorem Sr.new {w w' : World} {v : Value} {l : List Bs} (h : Sr w v l) (hm : Mod (fun _ => False) w w') : Sr w' v l := by
  rcases h with h | ⟨ad, c, rfl, h1, h2, hc⟩
  · exact .inl h
  · exact .inr ⟨ad, c, rfl, h1, h2, fun i hi => cell_keep hm (hc i hi) (fun h => h)⟩
theorem Sr.form {w : World} {v : Value} {l : List Bs} (h : Sr w v l) : ∃ A c, v = .slice A l.length c ∧ l.length ≤ c ∧ c ≤ maxLen ∧ (l.length = 0 ∨ ∃ ad, A = some ad) := by
  rcases h with ⟨rfl, rfl⟩ | ⟨ad, c, rfl, h1, h2, _⟩
  · exact ⟨none, 0, rfl, Nat.le_refl _, Nat.zero_le _, .inl rfl⟩
  · exact ⟨_, c, rfl, h1, h2, .inr ⟨ad, rfl⟩⟩
theorem Sr.at_ {w : World} {ad : Addr} {n c : Nat} {l : List Bs} (h : Sr w (.slice (some ad) n c) l) (i : Nat) (hi : i < l.length) : w.cell? (ad.add i) = some (.string (sv l[i])) := by
  rcases h with ⟨h, rfl⟩ | ⟨ad', c', hv, h1, h2, hc⟩
  · cases h
  · injection hv with e1 e2 e3
    injection e1 with e1
    subst e1
    exact hc i hi
def strv (l : List Bs) : List Value := l.map fun s => .string (sv s)
theorem own_sr {w : World} {base : Nat} {v : Value} {l : List Bs} (h : w.ownsRow base 9 1 v l.length (strv l)) : Sr w v l := by
  rcases own_cases h with ⟨rfl, hn, _⟩ | ⟨g, cap, cur, rfl, _, _, hn, hc, _, _⟩
  · exact .inl ⟨rfl, List.eq_nil_of_length_eq_zero hn⟩
  · obtain ⟨_, _, _, _, hrow, _⟩ := row_at h
    refine .inr ⟨⟨g, 0, none⟩, cap, rfl, hn, hc, fun i hi => ?_⟩
    have hadd : (⟨g, 0, none⟩ : Addr).add i = ⟨g, i, none⟩ := by rw [Addr.add_lit, Nat.zero_add]
    rw [hadd]
    exact hrow i _ (by simp [strv, List.getElem?_eq_getElem hi])

set_option maxRecDepth 100000 in
set_option maxHeartbeats 3200000 in
theorem texts_any (v1 v2 : Value) (l1 l2 : List Bs) (w : World) (h1 : Sr w v1 l1) (h2 : Sr w v2 l2) : Calls Try.prog 17 #[v1, v2] w (Same' (decide (l1 = l2)) w) := by
  obtain ⟨A1, c1, rfl, hlc1, hcm1, hA1⟩ := h1.form
  obtain ⟨A2, c2, rfl, hlc2, hcm2, hA2⟩ := h2.form
  unfold maxLen at hcm1 hcm2
  have HA1 := Lib.hid hA1
  have HA2 := Lib.hid hA2
  have HG1 := Lib.hid h1
  have HG2 := Lib.hid h2
  clear hA1 hA2 h1 h2
  have HM0 : Hid (Mod (fun _ => False) w w) := Lib.hid (Mod.refl _ _)
  by_cases hlen : l1.length = l2.length
  · have hl' : (l1.length : Int) = (l2.length : Int) := by omega
    go_enter Try.func17, Try.ntmps17
    go_wp2
    go_loopw [5] (fun i wr => ∃ k : Nat, i = .int .i64 k ∧ k ≤ l1.length ∧ Hid (∀ j, j < k → l1[j]! = l2[j]!) ∧ Hid (Mod (fun _ => False) w wr)) (fun i _ => l1.length - (intOf i).toNat)
    case atStart => exact ⟨0, rfl, by omega, Lib.hid (fun j hj => by omega), HM0⟩
    case round =>
      obtain ⟨k, rfl, hk, hall, hM⟩ := hrel
      by_cases hlt : k < l1.length
      · rcases HA1.out with h | ⟨ad1, rfl⟩
        · omega
        rcases HA2.out with h | ⟨ad2, rfl⟩
        · omega
        have hlt2 : k < l2.length := by omega
        have a0 := (HG1.out.new hM.out).at_ k hlt
        have b0 := (HG2.out.new hM.out).at_ k hlt2
        rw [← getElem!_pos l1 k hlt] at a0
        rw [← getElem!_pos l2 k hlt2] at b0
        have hstep : Hid (l1[k]! = l2[k]! → ∀ j, j < k + 1 → l1[j]! = l2[j]!) := Lib.hid (fun h j hj => by
          rcases Nat.lt_or_ge j k with h1 | h1
          · exact hall.out j h1
          · obtain rfl : j = k := by omega
            exact h)
        have hno : Hid (l1[k]! ≠ l2[k]! → decide (l1 = l2) = false) := Lib.hid (fun h => decide_eq_false (fun he => h (by rw [he])))
        have hbq := sv_beq l1[k]! l2[k]!
        generalize l1[k]! = f at *
        generalize l2[k]! = g at *
        have e0 : ∀ x : After wr, _ := calm_cell a0
        have d0 : ∀ x : After wr, _ := calm_cell b0
        have hq1 : (k : Int) < (l1.length : Int) := by omega
        have hq2 : (k : Int) < (l2.length : Int) := by omega
        clear a0 b0
        rcases hfg : f == g with _ | _
        · rw [hfg] at hbq
          have hs := Lib.hid (hno.out (by simpa using hfg))
          clear hstep hno hfg
          go_wp2
          refine region_calm (by kernel_rfl) (by kernel_rfl) ?_
          repeat (go_big_quiet_step (fail))
          refine calm_end (fun w9 hm9 => ?_)
          have Hfin : Hid (Mod (fun _ => False) w w9) := Lib.hid (hM.out.trans hm9 (fun _ h => h.elim))
          clear hm9 e0 d0
          go_wp2
          go_ret
          exact ⟨ret_bool hs.out.symm, Hfin.out⟩
        · rw [hfg] at hbq
          have hs := Lib.hid (hstep.out (by simpa using hfg))
          clear hstep hno hfg
          go_wp2
          refine region_calm (by kernel_rfl) (by kernel_rfl) ?_
          repeat (go_big_quiet_step (fail))
          refine calm_end (fun w9 hm9 => ?_)
          have Hfin : Hid (Mod (fun _ => False) w w9) := Lib.hid (hM.out.trans hm9 (fun _ h => h.elim))
          clear hm9 e0 d0
          go_wp2
          go_roundw
          case rel => exact ⟨k + 1, by go_num, by omega, hs, Hfin⟩
          case measure => simp [intOf]; omega
      · obtain rfl : l1.length = k := by omega
        have hs : Hid (decide (l1 = l2) = true) := Lib.hid (decide_eq_true (List.ext_getElem hlen (fun j h1 h2 => by
          have := hall.out j h1
          rwa [getElem!_pos l1 j h1, getElem!_pos l2 j h2] at this)))
        clear hall
        go_wp2
        go_ret
        exact ⟨ret_bool hs.out.symm, hM.out⟩
  · have hl' : ¬ (l1.length : Int) = (l2.length : Int) := by omega
    have hs : Hid (decide (l1 = l2) = false) := Lib.hid (decide_eq_false (fun h => hlen (by rw [h])))
    clear hlen
    go_enter Try.func17, Try.ntmps17
    go_wp2
    go_ret
    exact ⟨ret_bool hs.out.symm, HM0.out⟩
end Go.Proofs.Ytpbdcjgconopnaa
