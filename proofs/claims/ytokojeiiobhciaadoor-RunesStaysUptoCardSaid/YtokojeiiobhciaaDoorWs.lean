/-
  RunesStays' walk.
-/
import Derived.Test.YtokojeiiobhciaaDoorPt
import Derived.Test.YtokojeiiobhciaaDoorPc
import Derived.Test.YtokojeiiobhciaaDoorArgs
namespace Go.Proofs.YtokojeiiobhciaaDoor
open Go.RowKit Mem
set_option linter.unusedVariables false
set_option linter.unusedSimpArgs false

theorem and21 (x : Int) : ∃ R : Nat, Go.bits .and .i64 x 2097151 = (R : Int) ∧ R ≤ 2097151 := by
  unfold Go.bits
  simp only [BitVec.toNat_and]
  have h : ((BitVec.ofInt (IntKind.bits .i64) x).toNat &&& (BitVec.ofInt (IntKind.bits .i64) 2097151).toNat) ≤ 2097151 := Nat.and_le_right
  generalize ((BitVec.ofInt (IntKind.bits .i64) x).toNat &&& (BitVec.ofInt (IntKind.bits .i64) 2097151).toNat) = m at h
  rw [IntKind.wrap_i64]
  exact ⟨m, by omega, h⟩
theorem sv_add (a b : Bs) : sv a ++ sv b = sv (a ++ b) := by
  apply ByteArray.ext
  simp [sv]
def intOf : Value → Int | .int _ n => n | _ => 0
set_option maxRecDepth 100000 in
set_option maxHeartbeats 3200000 in
theorem runesStays_walk (A : Option Addr) (n c : Nat) (zs : List Int) (w : World) (hin : IsInts .i64 w A n c zs) (hT : Lib.Utf8Tabs 1 2 w) :
    Calls Tryd.prog 5 #[.slice A n c] w fun e w' => e = .returned (.bool true) ∧ Mod (fun _ => False) w w' := by
  go_enter Tryd.func5, Tryd.ntmps5
  go_wp2_with (fail)
  refine (shown_any w hT).mono ?_
  rintro e w1 ⟨rfl, hm1⟩
  have HM := Lib.hid hm1
  clear hm1
  go_wp2_with (fail)
  go_loopw [4, 5] (fun v i wr => ∃ (k : Nat) (L : List Nat), v = .string (sv (L.flatMap enc)) ∧ i = .int .i64 (k : Int) ∧ k ≤ n ∧ k ≤ 500 ∧ (L.flatMap enc).length ≤ 4 * k ∧ Hid (∀ r ∈ L, vr r ∧ r ≠ 0) ∧ Hid (Mod (fun _ => False) w wr)) (fun _ i _ => n - (intOf i).toNat)
  case atStart => exact ⟨0, [], rfl, rfl, by omega, by omega, by simp, Lib.hid (by simp), HM⟩
  case round =>
    obtain ⟨k, L, rfl, rfl, hk, hk5, hl, hL, hm⟩ := hrel
    by_cases hlt : k < n ∧ k < 500
    · have q1 : (k : Int) < (n : Int) := by omega
      have q2 : (k : Int) < 500 := by omega
      obtain ⟨x, z, rfl, hnc, hcm, hcell, hwf⟩ := hin.at_ hm.out k hlt.1
      obtain ⟨R, hR, hR2⟩ := and21 z
      clear hin
      by_cases hbad : R = 0 ∨ (55296 ≤ R ∧ R ≤ 57343) ∨ 1114111 < R
      · have hb2 : R = 0 ∨ ¬ R = 0 := by omega
        go_wp2_with (fail)
        all_goals first
          | (refine ⟨⟨k + 1, L, rfl, by simp, by omega, by omega, by omega, hL, hm⟩, ?_⟩
             show n - ((k : Int) + 1).toNat < n - (k : Int).toNat
             omega)
          | (exfalso; simp_all; omega)
      · have hv : vr R := by unfold vr; omega
        have hput := put_any R hv
        have e0 : ((R : Int) == 0) = false := by simp; omega
        have hR0 : ¬ R = 0 := by omega
        obtain ⟨S, hS⟩ : ∃ S, L.flatMap enc = S := ⟨_, rfl⟩
        obtain ⟨E, hE⟩ : ∃ E, enc R = E := ⟨_, rfl⟩
        obtain ⟨T, hTT⟩ : ∃ T, S ++ E = T := ⟨_, rfl⟩
        have hfl : (L ++ [R]).flatMap enc = T := by rw [List.flatMap_append, List.flatMap_singleton, hS, hE, hTT]
        have hcat : sv S ++ sv E = sv T := by rw [← hTT]; exact sv_add S E
        have hEl : E.length ≤ 4 := by
          have := (Lib.encodeRuneZ_length (R : Int)).2
          rw [← hE]
          unfold enc Lib.encodeRune
          rw [List.length_map]
          exact this
        have hTl : T.length = S.length + E.length := by rw [← hTT, List.length_append]
        rw [hS] at hl
        rw [hE] at hput
        simp only [hS]
        have z1 : (sv S).size = S.length := rfl
        have z2 : (sv E).size = E.length := rfl
        clear hS hE hTT
        go_wp2_with (fail)
        all_goals first
          | (exfalso; omega)
          | skip
        all_goals
          refine (hput _).mono ?_
          rintro e w2 ⟨rfl, hm2⟩
          have HM2 := Lib.hid (hm.out.trans hm2 (fun _ h => h.elim))
          clear hm2
          go_wp2_with (fail)
          refine ⟨⟨k + 1, L ++ [R], by rw [hfl], by simp, by omega, by omega, by rw [hfl]; omega, Lib.hid (fun r hr => ?_), HM2⟩, ?_⟩
          · rcases List.mem_append.1 hr with h | h
            · exact hL.out r h
            · have : r = R := by simpa using h
              rw [this]; exact ⟨hv, hR0⟩
          · show n - ((k : Int) + 1).toNat < n - (k : Int).toNat
            omega
    · have hq : (k : Int) < (n : Int) → ¬ (k : Int) < 500 := by omega
      have hcv := fun w s => run_bytes_of_string (P := Tryd.prog) w 9 30 5 s Tryd.underlying9 Tryd.underlying30 Tryd.underlying5
      obtain ⟨S, hS⟩ : ∃ S, L.flatMap enc = S := ⟨_, rfl⟩
      have hcl : clB (sv S) S.length 0 = S := by rw [clB_eq, ← hS]; exact clean_encs L hL.out
      rw [hS] at hl
      simp only [hS]
      have z1 : (sv S).size = S.length := rfl
      have t1 : (sv S).toList = S := sv_toList S
      clear hin hS
      go_wp2_with (fail)
      all_goals
        refine (clean_text S (by omega) wr _ _).mono ?_
        rintro e w2 ⟨rfl, hm2⟩
        have HM2 := Lib.hid (hm.out.trans hm2 (fun _ h => h.elim))
        rw [hcl]
        clear hm2
        go_wp2_with (fail)
        go_ret
        exact ⟨rfl, HM2.out⟩
end Go.Proofs.YtokojeiiobhciaaDoor
