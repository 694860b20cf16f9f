/-
  PutNumber.
-/
import Derived.Test.YtealopafgipimaaDoorNp
namespace Go.Proofs.YtealopafgipimaaDoor
open Go.RowKit Mem
set_option linter.unusedVariables false
set_option linter.unusedSimpArgs false

theorem or128 (n : Nat) : Go.bits .or .u8 ((n : Int) % 256) 128 = ((n % 128 + 128 : Nat) : Int) := by
  have h : ∀ m : Nat, m < 256 → Go.bits .or .u8 (m : Int) 128 = ((m % 128 + 128 : Nat) : Int) := by decide +kernel
  have := h (n % 256) (by omega)
  rw [Int.natCast_emod] at this
  rw [show (n : Int) % 256 = (n : Int) % ((256 : Nat) : Int) from rfl, this]
  congr 1
  omega
theorem pnF_stop (f n : Nat) (h : n < 128) : pnF f n = [n.toUInt8] := by
  cases f with
  | zero => rfl
  | succ f => unfold pnF; rw [if_pos h]
theorem pnF_go (f n : Nat) (h : ¬ n < 128) : pnF (f + 1) n = (n % 128 + 128).toUInt8 :: pnF f (n / 128) := by
  rw [pnF, if_neg h]
theorem u8_nat (n : Nat) (h : n < 256) : (n.toUInt8.toNat : Int) = (n : Int) := by simp; omega
set_option maxRecDepth 100000 in
set_option maxHeartbeats 6400000 in
theorem putnum_any (A : Option Addr) (n c : Nat) (l : Bs) (N : Nat) (w : World) (hn : l.length = n) (hl : n ≤ 1048576) (h : Rd w (.slice A n c) l) (hN : N < 18446744073709551616) :
    Calls Tryd.prog 12 #[.slice A n c, .int .u64 (N : Int)] w fun e w' => ∃ v, e = .returned v ∧ Ob w w' v (l ++ pn N) ∧ Mod (fun _ => False) w w' := by
  obtain ⟨A1, c1, w1, hr1, hO1, hm1⟩ := copy_nil w _ l h (by omega)
  rw [hn] at hr1 hO1
  have H1 := Lib.hid (And.intro hO1 hm1)
  have hn0 := hn
  clear hO1 hm1 h hn
  go_enter Tryd.func12, Tryd.ntmps12
  have HN0 := Lib.hid hn0
  clear hn0
  go_wp2_with (at_builtin; refine wpList_append_run rfl _ _ 22 22 rfl _ _ rfl rfl hr1 ?_)
  have hn0 := HN0.out
  go_loopw [0, 1] (fun v0 v1 wr => ∃ (acc : Bs) (M f : Nat) (B : Option Addr) (cb : Nat), v0 = .slice B acc.length cb ∧ v1 = .int .u64 (M : Int) ∧ M < 18446744073709551616 ∧ f ≤ 10 ∧ acc.length ≤ 1048590 - f ∧ Hid (M < 128 ^ (f + 1)) ∧ Hid (acc ++ pnF f M = l ++ pn N) ∧ Hid (Ob w wr (.slice B acc.length cb) acc) ∧ Hid (Mod (fun _ => False) w wr)) (fun _ i _ => (iOf i).toNat)
  case atStart => exact ⟨l, N, 10, A1, c1, by rw [hn0], rfl, hN, by omega, by omega, Lib.hid (Nat.lt_trans hN (by decide)), Lib.hid rfl, Lib.hid (by rw [hn0]; exact H1.out.1), Lib.hid H1.out.2⟩
  case round =>
    obtain ⟨acc, M, f, B, cb, rfl, rfl, hM, hf, hal, hMf, hE, hO, hm⟩ := hrel
    by_cases h128 : M < 128
    · have q1 : ¬ (128 : Int) ≤ (M : Int) := by omega
      have hE2 := hE.out
      rw [pnF_stop f M h128] at hE2
      have hwM : IntKind.u8.wrap (M : Int) = (M : Int) := by rw [IntKind.wrap_u8]; omega
      obtain ⟨B2, c2, w2, hr, hO2, hm2⟩ := hO.out.app1 M.toUInt8 hm.out (by omega)
      rw [u8_nat M (by omega)] at hr
      have HH := Lib.hid (And.intro hO2 (And.intro hm2 hE2))
      clear hE hE2 hO hm hO2 hm2 hn0 hMf
      go_wp2_with (at_builtin; refine wpList_append_run rfl _ _ 22 22 rfl _ _ rfl rfl hr ?_)
      go_ret
      obtain ⟨h1, h2, h3⟩ := HH.out
      exact ⟨_, rfl, by rw [← h3]; exact h1, h2⟩
    · have q1 : (128 : Int) ≤ (M : Int) := by omega
      cases f with
      | zero => exact absurd hMf.out (by omega)
      | succ f =>
        have hE2 := hE.out
        rw [pnF_go f M h128] at hE2
        obtain ⟨Z, hZ⟩ : ∃ Z, M % 128 + 128 = Z := ⟨_, rfl⟩
        have hor := or128 M
        have hZ256 : Z < 256 := by omega
        rw [hZ] at hor hE2
        obtain ⟨B2, c2, w2, hr, hO2, hm2⟩ := hO.out.app1 Z.toUInt8 hm.out (by omega)
        rw [u8_nat Z hZ256] at hr
        have hlen : (acc ++ [Z.toUInt8]).length = acc.length + 1 := List.length_append ..
        have hMd : M / 128 < 128 ^ (f + 1) := by
          have := hMf.out
          rw [Nat.pow_succ] at this
          exact Nat.div_lt_of_lt_mul (by rw [Nat.mul_comm]; exact this)
        have HMd := Lib.hid hMd
        have HE : Hid ((acc ++ [Z.toUInt8]) ++ pnF f (M / 128) = l ++ pn N) := Lib.hid (by rw [← hE2, List.append_assoc]; rfl)
        have HH : Hid (Ob w w2 (.slice B2 (acc ++ [Z.toUInt8]).length c2) (acc ++ [Z.toUInt8])) := Lib.hid (by rw [hlen]; exact hO2)
        have HM2 := Lib.hid hm2
        clear hE hE2 hO hm hO2 hm2 hn0 hMf hZ hMd
        go_wp2_with (at_builtin; refine wpList_append_run rfl _ _ 22 22 rfl _ _ rfl rfl hr ?_)
        refine ⟨⟨acc ++ [Z.toUInt8], M / 128, f, B2, c2, by rw [hlen], by simp, by omega, by omega, by rw [hlen]; omega, HMd, HE, HH, HM2⟩, ?_⟩
        simp only [iOf]
        omega
end Go.Proofs.YtealopafgipimaaDoor
