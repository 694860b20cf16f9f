/-
  PutNumber, the document's; PutText.
-/
import Derived.Test.YtealopafgipimaaDoorPn
import Derived.Test.YtealopafgipimaaDoorTr
namespace Go.Proofs.YtealopafgipimaaDoor
open Go.RowKit Mem
set_option linter.unusedVariables false
set_option linter.unusedSimpArgs false

set_option maxRecDepth 100000 in
set_option maxHeartbeats 6400000 in
theorem rputnum_any (A : Option Addr) (n c : Nat) (l : Bs) (N : Nat) (w : World) (hn : l.length = n) (hl : n ≤ 1048576) (h : Rd w (.slice A n c) l) (hN : N < 18446744073709551616) :
    Calls Tryd.prog 14 #[.slice A n c, .int .u64 (N : Int)] w fun e w' => ∃ v, e = .returned v ∧ Ob w w' v (l ++ pn N) ∧ Mod (fun _ => False) w w' := by
  obtain ⟨A1, c1, w1, hr1, hO1, hm1⟩ := copy_ob w _ l h (by omega)
  rw [hn] at hr1 hO1
  have H1 := Lib.hid (And.intro hO1 hm1)
  have hn0 := hn
  clear hO1 hm1 h hn
  go_enter Tryd.func14, Tryd.ntmps14
  have HN0 := Lib.hid hn0
  clear hn0
  go_wp2_with (at_builtin; refine wpList_append_run rfl _ _ 22 22 rfl _ _ rfl rfl hr1 ?_)
  have hn0 := HN0.out
  go_loopw [1, 5] (fun v1 v0 wr => ∃ (acc : Bs) (M f : Nat) (B : Option Addr) (cb : Nat), v0 = .slice B acc.length cb ∧ v1 = .int .u64 (M : Int) ∧ M < 18446744073709551616 ∧ f ≤ 10 ∧ acc.length ≤ 1048590 - f ∧ Hid (M < 128 ^ (f + 1)) ∧ Hid (acc ++ pnF f M = l ++ pn N) ∧ Hid (Ob w wr (.slice B acc.length cb) acc) ∧ Hid (Mod (fun _ => False) w wr)) (fun i _ _ => (iOf i).toNat)
  case atStart => exact ⟨l, N, 10, A1, c1, by rw [hn0], rfl, hN, by omega, by omega, Lib.hid (Nat.lt_trans hN (by decide)), Lib.hid rfl, Lib.hid (by rw [hn0]; exact H1.out.1), Lib.hid H1.out.2⟩
  case round =>
    obtain ⟨acc, M, f, B, cb, rfl, rfl, hM, hf, hal, hMf, hE, hO, hm⟩ := hrel
    by_cases h128 : M < 128
    · have q1 : ¬ (128 : Int) ≤ (M : Int) := by omega
      have hE2 := hE.out
      rw [pnF_stop f M h128] at hE2
      have hwM : IntKind.u8.wrap (M : Int) = (M : Int) := by rw [IntKind.wrap_u8]; omega
      obtain ⟨B2, c2, w2, hr, hO2, hm2⟩ := hO.out.app1 M.toUInt8 hm.out (by omega)
      rw [u8_nat M (by omega)] at hr
      have HH := Lib.hid (And.intro hO2 (And.intro hm2 hE2))
      clear hE hE2 hO hm hO2 hm2 hn0 hMf
      go_wp2_with (at_builtin; refine wpList_append_run rfl _ _ 22 22 rfl _ _ rfl rfl hr ?_)
      go_ret
      obtain ⟨h1, h2, h3⟩ := HH.out
      exact ⟨_, rfl, by rw [← h3]; exact h1, h2⟩
    · have q1 : (128 : Int) ≤ (M : Int) := by omega
      cases f with
      | zero => exact absurd hMf.out (by omega)
      | succ f =>
        have hE2 := hE.out
        rw [pnF_go f M h128] at hE2
        obtain ⟨Z, hZ⟩ : ∃ Z, M % 128 + 128 = Z := ⟨_, rfl⟩
        have hZ256 : Z < 256 := by omega
        rw [hZ] at hE2
        have hor : (M : Int) % 128 + 128 = (Z : Int) := by omega
        obtain ⟨B2, c2, w2, hr, hO2, hm2⟩ := hO.out.app1 Z.toUInt8 hm.out (by omega)
        rw [u8_nat Z hZ256] at hr
        have hlen : (acc ++ [Z.toUInt8]).length = acc.length + 1 := List.length_append ..
        have hMd : M / 128 < 128 ^ (f + 1) := by
          have := hMf.out
          rw [Nat.pow_succ] at this
          exact Nat.div_lt_of_lt_mul (by rw [Nat.mul_comm]; exact this)
        have HMd := Lib.hid hMd
        have HE : Hid ((acc ++ [Z.toUInt8]) ++ pnF f (M / 128) = l ++ pn N) := Lib.hid (by rw [← hE2, List.append_assoc]; rfl)
        have HH : Hid (Ob w w2 (.slice B2 (acc ++ [Z.toUInt8]).length c2) (acc ++ [Z.toUInt8])) := Lib.hid (by rw [hlen]; exact hO2)
        have HM2 := Lib.hid hm2
        clear hE hE2 hO hm hO2 hm2 hn0 hMf hZ hMd
        go_wp2_with (at_builtin; refine wpList_append_run rfl _ _ 22 22 rfl _ _ rfl rfl hr ?_)
        refine ⟨⟨acc ++ [Z.toUInt8], M / 128, f, B2, c2, by rw [hlen], by simp, by omega, by omega, by rw [hlen]; omega, HMd, HE, HH, HM2⟩, ?_⟩
        simp only [iOf]
        omega
theorem pnF_len : ∀ (f n : Nat), 1 ≤ (pnF f n).length ∧ (pnF f n).length ≤ f + 1
  | 0, n => ⟨Nat.le_refl _, Nat.le_refl _⟩
  | f + 1, n => by
    unfold pnF
    split
    · simp
    · obtain ⟨h1, h2⟩ := pnF_len f (n / 128)
      simp only [List.length_cons]
      omega
theorem pn_len (n : Nat) : 1 ≤ (pn n).length ∧ (pn n).length ≤ 11 := pnF_len 10 n
set_option maxRecDepth 100000 in
set_option maxHeartbeats 3200000 in
theorem puttext_any (A : Option Addr) (n c : Nat) (l s : Bs) (w : World) (hn : l.length = n) (hl : n ≤ 1048576) (hs : s.length ≤ 1048576) (h : Rd w (.slice A n c) l) :
    Calls Tryd.prog 13 #[.slice A n c, .string (sv s)] w fun e w' => ∃ v, e = .returned v ∧ Ob w w' v (l ++ pn s.length ++ s) ∧ Mod (fun _ => False) w w' := by
  have hp := putnum_any A n c l s.length w hn hl h (by omega)
  have hsz : ((sv s).size : Int) = (s.length : Int) := rfl
  have HN := Lib.hid hn
  clear hn
  go_enter Tryd.func13, Tryd.ntmps13
  go_wp2_with (fail)
  refine hp.mono ?_
  rintro e w2 ⟨v, rfl, hO, hm⟩
  obtain ⟨B, cb, rfl⟩ := hO.val
  have hpl := pn_len s.length
  obtain ⟨L, hL⟩ : ∃ L, l ++ pn s.length = L := ⟨_, rfl⟩
  have hne : L ≠ [] := by rw [← hL]; intro e; have := congrArg List.length e; rw [List.length_append, List.length_nil] at this; omega
  have hLl : L.length ≤ 1048590 := by have := HN.out; rw [← hL, List.length_append]; omega
  rw [hL] at hO
  obtain ⟨B2, c2, w3, hr, hO3, hm3⟩ := hO.app hm (.inr hne) (m := s) (by omega)
  have hfin : Ob w w3 (.slice B2 (L.length + s.length) c2) (l ++ pn s.length ++ s) := by rw [hL]; exact hO3
  have HH := Lib.hid (And.intro hfin hm3)
  clear hfin
  rw [hL]
  clear hO hm hO3 hm3 hp hL hpl hLl
  go_wp2_with (at_builtin; refine wpList_append_run rfl _ _ 22 9 rfl _ _ rfl rfl hr ?_)
  go_ret
  exact ⟨_, rfl, HH.out.1, HH.out.2⟩
set_option maxRecDepth 100000 in
set_option maxHeartbeats 3200000 in
theorem rputtext_any (A : Option Addr) (n c : Nat) (l s : Bs) (w : World) (hn : l.length = n) (hl : n ≤ 1048576) (hs : s.length ≤ 1048576) (h : Rd w (.slice A n c) l) :
    Calls Tryd.prog 15 #[.slice A n c, .string (sv s)] w fun e w' => ∃ v, e = .returned v ∧ Ob w w' v (l ++ pn s.length ++ s) ∧ Mod (fun _ => False) w w' := by
  have hp := rputnum_any A n c l s.length w hn hl h (by omega)
  have hsz : ((sv s).size : Int) = (s.length : Int) := rfl
  have HN := Lib.hid hn
  clear hn
  go_enter Tryd.func15, Tryd.ntmps15
  go_wp2_with (fail)
  refine hp.mono ?_
  rintro e w2 ⟨v, rfl, hO, hm⟩
  obtain ⟨B, cb, rfl⟩ := hO.val
  have hpl := pn_len s.length
  obtain ⟨L, hL⟩ : ∃ L, l ++ pn s.length = L := ⟨_, rfl⟩
  have hne : L ≠ [] := by rw [← hL]; intro e; have := congrArg List.length e; rw [List.length_append, List.length_nil] at this; omega
  have hLl : L.length ≤ 1048590 := by have := HN.out; rw [← hL, List.length_append]; omega
  rw [hL] at hO
  obtain ⟨B2, c2, w3, hr, hO3, hm3⟩ := hO.app hm (.inr hne) (m := s) (by omega)
  have hfin : Ob w w3 (.slice B2 (L.length + s.length) c2) (l ++ pn s.length ++ s) := by rw [hL]; exact hO3
  have HH := Lib.hid (And.intro hfin hm3)
  clear hfin
  rw [hL]
  clear hO hm hO3 hm3 hp hL hpl hLl
  go_wp2_with (at_builtin; refine wpList_append_run rfl _ _ 22 9 rfl _ _ rfl rfl hr ?_)
  go_ret
  exact ⟨_, rfl, HH.out.1, HH.out.2⟩
end Go.Proofs.YtealopafgipimaaDoor
