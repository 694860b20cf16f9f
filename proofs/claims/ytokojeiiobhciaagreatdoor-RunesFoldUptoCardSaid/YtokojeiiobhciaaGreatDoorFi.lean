/-
  First: the document's.
-/
import Derived.Test.YtokojeiiobhciaaGreatDoorPt
import Derived.Test.YtokojeiiobhciaaGreatDoorPc
namespace Go.Proofs.YtokojeiiobhciaaGreatDoor
open Go.RowKit Mem
set_option linter.unusedVariables false
set_option linter.unusedSimpArgs false

def tlB (c : Int) : Bool := decide (128 ≤ c) && decide (c < 192)
theorem tail_any (c : Int) (w : World) : Calls Tryz.prog 21 #[.int .u8 c] w fun e w' => e = .returned (.bool (tlB c)) ∧ w' = w := by
  go_enter Tryz.func21, Tryz.ntmps21
  go_wp2_with (fail)
  all_goals
    go_ret
    refine ⟨?_, rfl⟩
    first | (simp_all [tlB]; done) | (simp_all [tlB]; omega)
/-- What a character's first byte says: how many bytes, its share, and the least. -/
def Kd (c : Int) (N r0 least : Int) : Prop := (N = 2 ∧ 194 ≤ c ∧ c < 224 ∧ r0 = c - 192 ∧ least = 128) ∨ (N = 3 ∧ 224 ≤ c ∧ c < 240 ∧ r0 = c - 224 ∧ least = 2048) ∨ (N = 4 ∧ 240 ≤ c ∧ c < 245 ∧ r0 = c - 240 ∧ least = 65536)
def gD (l : Bs) (k : Nat) : Int := ((l.getD k 0).toNat : Int)
def acR (l : Bs) (r0 : Int) : Nat → Int
  | 0 => r0
  | k + 1 => 64 * acR l r0 k + gD l (k + 1) - 128
theorem gD_b (l : Bs) (k : Nat) : 0 ≤ gD l k ∧ gD l k < 256 := by
  have := (l.getD k 0).toNat_lt
  unfold gD
  omega
theorem dec_g (l : Bs) : ∃ b0 b1 b2 b3 : Nat, gD l 0 = b0 ∧ gD l 1 = b1 ∧ gD l 2 = b2 ∧ gD l 3 = b3 ∧ b0 < 256 ∧ b1 < 256 ∧ b2 < 256 ∧ b3 < 256 ∧ Lib.decodeL l = Lib.decodeN l.length b0 b1 b2 b3 :=
  ⟨_, _, _, _, rfl, rfl, rfl, rfl, (l.getD 0 0).toNat_lt, (l.getD 1 0).toNat_lt, (l.getD 2 0).toNat_lt, (l.getD 3 0).toNat_lt, Lib.decodeL_N l⟩
theorem dec_low (l : Bs) (h : gD l 0 < 128) : Lib.decodeL l = ((gD l 0).toNat, 1) := by
  obtain ⟨b0, b1, b2, b3, e0, e1, e2, e3, k0, k1, k2, k3, e⟩ := dec_g l
  rw [e, e0]
  unfold Lib.decodeN
  rw [if_pos (by omega)]
  rfl
theorem dec_none (l : Bs) (h : 128 ≤ gD l 0) (hk : gD l 0 < 194 ∨ 245 ≤ gD l 0) : Lib.decodeL l = (65533, 1) := by
  obtain ⟨b0, b1, b2, b3, e0, e1, e2, e3, k0, k1, k2, k3, e⟩ := dec_g l
  rw [e]
  rw [e0] at h hk
  unfold Lib.decodeN
  repeat' split
  all_goals first | rfl | (exfalso; omega)
theorem dec_short (l : Bs) (N r0 least : Int) (hK : Kd (gD l 0) N r0 least) (h : (l.length : Int) < N) : Lib.decodeL l = (65533, 1) := by
  obtain ⟨b0, b1, b2, b3, e0, e1, e2, e3, k0, k1, k2, k3, e⟩ := dec_g l
  rw [e]
  rw [e0] at hK
  unfold Kd at hK
  unfold Lib.decodeN
  repeat' split
  all_goals first | rfl | (exfalso; omega)
theorem dec_bad (l : Bs) (N r0 least : Int) (hK : Kd (gD l 0) N r0 least) (k : Nat) (h1 : 1 ≤ k) (hk : (k : Int) < N) (h : tlB (gD l k) = false) : Lib.decodeL l = (65533, 1) := by
  obtain ⟨b0, b1, b2, b3, e0, e1, e2, e3, k0, k1, k2, k3, e⟩ := dec_g l
  rw [e]
  rw [e0] at hK
  unfold Kd at hK
  have hk3 : k = 1 ∨ k = 2 ∨ k = 3 := by omega
  have ht : ¬ (128 ≤ gD l k ∧ gD l k < 192) := by
    intro hh
    unfold tlB at h
    rw [decide_eq_true hh.1, decide_eq_true hh.2] at h
    cases h
  rcases hk3 with rfl | rfl | rfl
  · rw [e1] at ht
    unfold Lib.decodeN
    repeat' split
    all_goals first | rfl | (exfalso; omega)
  · rw [e2] at ht
    unfold Lib.decodeN
    repeat' split
    all_goals first | rfl | (exfalso; omega)
  · rw [e3] at ht
    unfold Lib.decodeN
    repeat' split
    all_goals first | rfl | (exfalso; omega)
theorem dec_end (l : Bs) (N r0 least : Int) (hK : Kd (gD l 0) N r0 least) (hl : N ≤ (l.length : Int)) (k : Nat) (hk : (k : Int) + 1 = N) (h : ∀ j, 1 ≤ j → j ≤ k → tlB (gD l j) = true) :
    Lib.decodeL l = if acR l r0 k < least ∨ (55296 ≤ acR l r0 k ∧ acR l r0 k ≤ 57343) ∨ 1114111 < acR l r0 k then (65533, 1) else ((acR l r0 k).toNat, N.toNat) := by
  obtain ⟨b0, b1, b2, b3, e0, e1, e2, e3, k0, k1, k2, k3, e⟩ := dec_g l
  rw [e]
  rw [e0] at hK
  unfold Kd at hK
  have hk3 : k = 1 ∨ k = 2 ∨ k = 3 := by omega
  have ht : ∀ j, 1 ≤ j → j ≤ k → (128 ≤ gD l j ∧ gD l j < 192) := by
    intro j h1 h2
    have := h j h1 h2
    unfold tlB at this
    simp only [Bool.and_eq_true, decide_eq_true_eq] at this
    exact this
  rcases hk3 with rfl | rfl | rfl
  · have t1 := ht 1 (by omega) (by omega)
    have x1 : acR l r0 1 = 64 * r0 + (b1 : Int) - 128 := by show 64 * r0 + gD l 1 - 128 = _; rw [e1]
    rw [e1] at t1
    rw [x1]
    generalize hX : 64 * r0 + (b1 : Int) - 128 = X
    unfold Lib.decodeN
    rw [if_neg (by omega), if_pos (by omega)]
    split
    · rw [if_neg (by omega), Prod.mk.injEq]; exact ⟨by omega, by omega⟩
    · rw [if_pos (by omega)]
  · have t1 := ht 1 (by omega) (by omega)
    have t2 := ht 2 (by omega) (by omega)
    have x1 : acR l r0 2 = 64 * (64 * r0 + (b1 : Int) - 128) + (b2 : Int) - 128 := by show 64 * (64 * r0 + gD l 1 - 128) + gD l 2 - 128 = _; rw [e1, e2]
    rw [e1] at t1
    rw [e2] at t2
    rw [x1]
    generalize hX : 64 * (64 * r0 + (b1 : Int) - 128) + (b2 : Int) - 128 = X
    unfold Lib.decodeN
    rw [if_neg (by omega), if_neg (by omega), if_pos (by omega)]
    split
    · rw [if_neg (by omega), Prod.mk.injEq]; exact ⟨by omega, by omega⟩
    · rw [if_pos (by omega)]
  · have t1 := ht 1 (by omega) (by omega)
    have t2 := ht 2 (by omega) (by omega)
    have t3 := ht 3 (by omega) (by omega)
    have x1 : acR l r0 3 = 64 * (64 * (64 * r0 + (b1 : Int) - 128) + (b2 : Int) - 128) + (b3 : Int) - 128 := by show 64 * (64 * (64 * r0 + gD l 1 - 128) + gD l 2 - 128) + gD l 3 - 128 = _; rw [e1, e2, e3]
    rw [e1] at t1
    rw [e2] at t2
    rw [e3] at t3
    rw [x1]
    generalize hX : 64 * (64 * (64 * r0 + (b1 : Int) - 128) + (b2 : Int) - 128) + (b3 : Int) - 128 = X
    unfold Lib.decodeN
    rw [if_neg (by omega), if_neg (by omega), if_neg (by omega), if_pos (by omega)]
    split
    · rw [if_neg (by omega), Prod.mk.injEq]; exact ⟨by omega, by omega⟩
    · rw [if_pos (by omega)]
theorem tl_bound (c : Int) (h : tlB c = true) : 128 ≤ c ∧ c < 192 := by
  unfold tlB at h
  simp only [Bool.and_eq_true, decide_eq_true_eq] at h
  exact h
set_option maxRecDepth 100000 in
set_option maxHeartbeats 3200000 in
theorem first_any (l : Bs) (hne : l ≠ []) (w : World) (ht : l.length ≤ 1000000000000) :
    Calls Tryz.prog 8 #[.string (sv l)] w fun e w' => e = .returned (.tuple #[.int .i64 ((Lib.decodeL l).1 : Int), .int .i64 ((Lib.decodeL l).2 : Int)]) ∧ w' = w := by
  have hl1 : 1 ≤ l.length := List.length_pos_iff.2 hne
  have hlen : ((sv l).size : Int) = (l.length : Int) := rfl
  have hl0 : (0 : Int) < (l.length : Int) := by omega
  obtain ⟨c, hc⟩ : ∃ c, gD l 0 = c := ⟨_, rfl⟩
  have hcb := gD_b l 0
  rw [hc] at hcb
  have hget0 : ∀ h, (((sv l)[0]'h).toNat : Int) = c := fun h => by rw [← hc]; unfold gD; rw [List.getD_eq_getElem?_getD, List.getElem?_eq_getElem (by omega)]; rfl
  have hwr : wrap64 c = c := by unfold wrap64; omega
  go_enter Tryz.func8, Tryz.ntmps8
  go_upto_block 0 with (fail)
  go_cut [5, 6, 7] (fun v5 v6 v7 wx => ∃ N r0 least : Int, v5 = .int .i64 N ∧ v6 = .int .i64 r0 ∧ v7 = .int .i64 least ∧ Hid (Kd c N r0 least) ∧ 2 ≤ N ∧ N ≤ 4 ∧ 0 ≤ r0 ∧ r0 ≤ 31 ∧ wx = w)
  case first =>
    go_wp2_with (fail)
    · next h1 =>
      go_ret2
      exact ⟨by rw [dec_low l (by rw [hc]; exact h1), hc]; show Ending.returned (Value.tuple #[.int .i64 c, .int .i64 1]) = Ending.returned (Value.tuple #[.int .i64 (c.toNat : Int), .int .i64 ((1 : Nat) : Int)]); rw [Int.toNat_of_nonneg hcb.1]; rfl, rfl⟩
    · go_meet
      case rel => exact ⟨2, c - 192, 128, rfl, rfl, rfl, Lib.hid (.inl ⟨rfl, by omega, by omega, rfl, rfl⟩), by omega, by omega, by omega, by omega, rfl⟩
    · go_meet
      case rel => exact ⟨3, c - 224, 2048, rfl, rfl, rfl, Lib.hid (.inr (.inl ⟨rfl, by omega, by omega, rfl, rfl⟩)), by omega, by omega, by omega, by omega, rfl⟩
    · go_meet
      case rel => exact ⟨4, c - 240, 65536, rfl, rfl, rfl, Lib.hid (.inr (.inr ⟨rfl, by omega, by omega, rfl, rfl⟩)), by omega, by omega, by omega, by omega, rfl⟩
    · go_ret2
      exact ⟨by rw [dec_none l (by rw [hc]; omega) (by rw [hc]; omega)]; rfl, rfl⟩
    · go_ret2
      exact ⟨by rw [dec_none l (by rw [hc]; omega) (by rw [hc]; omega)]; rfl, rfl⟩
  case rest =>
    obtain ⟨N, r0, least, rfl, rfl, rfl, hK, hN1, hN2, hr1, hr2, rfl⟩ := hcut
    by_cases hs : (l.length : Int) < N
    · have e := dec_short l N r0 least (by rw [hc]; exact hK.out) hs
      have HE := Lib.hid e
      clear e
      go_wp2_with (fail)
      go_ret2
      exact ⟨by rw [HE.out]; rfl, rfl⟩
    · go_wp2_with (fail)
      go_loopw [6, 8] (fun v6 v8 wr => ∃ (m : Nat) (R : Int), v6 = .int .i64 R ∧ v8 = .int .i64 (m : Int) ∧ 1 ≤ m ∧ (m : Int) ≤ N ∧ Hid (acR l r0 (m - 1) = R) ∧ 0 ≤ R ∧ ((m = 1 ∧ R ≤ 31) ∨ (m = 2 ∧ R ≤ 2047) ∨ (m = 3 ∧ R ≤ 131071) ∨ (m = 4 ∧ R ≤ 8388607)) ∧ Hid (∀ j, 1 ≤ j → j ≤ m - 1 → tlB (gD l j) = true) ∧ wr = wc) (fun _ v _ => match v with | .int _ n => (4 - n).toNat | _ => 0)
      case atStart => exact ⟨1, r0, rfl, rfl, by omega, by omega, Lib.hid rfl, hr1, .inl ⟨rfl, hr2⟩, Lib.hid (fun j h1 h2 => by omega), rfl⟩
      case round =>
        obtain ⟨m, R, rfl, rfl, hm1, hmN, hR, hR0, hRb, hT, rfl⟩ := hrel
        by_cases hlt : (m : Int) < N
        · have hget : ∀ h, (((sv l)[m]'h).toNat : Int) = gD l m := fun h => by unfold gD; rw [List.getD_eq_getElem?_getD, List.getElem?_eq_getElem (by omega)]; rfl
          have hgb := gD_b l m
          obtain ⟨g, hg⟩ : ∃ g, gD l m = g := ⟨_, rfl⟩
          have hml : (m : Int) < (l.length : Int) := by omega
          have HB := Lib.hid (dec_bad l N r0 least (by rw [hc]; exact hK.out) m hm1 hlt)
          have hwg : wrap64 g = g := by unfold wrap64; omega
          rw [hg] at HB hgb
          simp only [hg] at hget
          have hta := tail_any g
          go_wp2_with (fail)
          refine (hta _).mono ?_
          rintro e w2 ⟨rfl, rfl⟩
          obtain ⟨B, hB⟩ : ∃ B, tlB g = B := ⟨_, rfl⟩
          rw [hB] at HB ⊢
          cases B with
          | false =>
            have HE := Lib.hid (HB.out rfl)
            clear HB hta
            go_wp2_with (fail)
            go_ret2
            exact ⟨by rw [HE.out]; rfl, rfl⟩
          | true =>
            have hgt := tl_bound g hB
            clear HB hta
            go_wp2_with (fail)
            refine ⟨⟨m + 1, _, rfl, by simp, by omega, by omega, Lib.hid ?_, by omega, ?_, Lib.hid ?_, trivial⟩, ?_⟩
            · obtain ⟨q, rfl⟩ : ∃ q, m = q + 1 := ⟨m - 1, by omega⟩
              have h1 := hR.out
              simp only [Nat.add_sub_cancel] at h1 ⊢
              show 64 * acR l r0 q + gD l (q + 1) - 128 = _
              rw [h1, hg]
            · have hK2 := hK.out
              unfold Kd at hK2
              omega
            · intro j h1 h2
              by_cases hj : j = m
              · rw [hj, hg]; exact hB
              · exact hT.out j h1 (by omega)
            · show (4 - ((m : Int) + 1)).toNat < (4 - (m : Int)).toNat
              omega
        · have hmE : (m : Int) = N := by omega
          have HE := Lib.hid (dec_end l N r0 least (by rw [hc]; exact hK.out) (by omega) (m - 1) (by omega) hT.out)
          rw [hR.out] at HE
          have hRc : ((R.toNat : Nat) : Int) = R := by omega
          have hNc : ((N.toNat : Nat) : Int) = N := by omega
          clear hT hR hmN hget0 hwr hlen
          go_wp2_with (fail)
          all_goals
            go_ret2
            first
              | exact ⟨by rw [HE.out, if_pos (by omega)]; rfl, rfl⟩
              | exact ⟨by rw [HE.out, if_neg (by omega)]; show Ending.returned (Value.tuple #[.int .i64 R, .int .i64 N]) = Ending.returned (Value.tuple #[.int .i64 (R.toNat : Int), .int .i64 (N.toNat : Int)]); rw [hRc, hNc], rfl⟩
end Go.Proofs.YtokojeiiobhciaaGreatDoor
