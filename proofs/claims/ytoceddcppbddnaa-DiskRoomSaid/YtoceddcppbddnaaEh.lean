/-
  DiskRoom's walk.
-/
import Derived.Test.YtoceddcppbddnaaEg
import Derived.Test.YtoceddcppbddnaaArgs
import Derived.Laws.MakeOwn
import Derived.Deep.RegionWith
import Derived.Outline
import Derived.Deep.DeepCutAuto
import Derived.Deep.CutBlock
namespace Go.Proofs.Ytoceddcppbddnaa
open Go.RowKit Mem Go.Maps
set_option linter.unusedVariables false
set_option linter.unusedSimpArgs false

theorem tmod_nat' (m j : Nat) : ((m : Int)).tmod (j : Int) = ((m % j : Nat) : Int) := by
  rw [Int.tmod_eq_emod_of_nonneg (by omega)]; omega
/-- Zero bytes. -/
def zer (K : Nat) : Bs := List.replicate K 0
theorem zer_len (K : Nat) : (zer K).length = K := by simp [zer]
theorem madeList (K : Nat) : (madeCells #[Value.int .u8 0] K).toList = bts (zer K) := by
  apply List.ext_getElem?
  intro j
  simp [madeCells, bts, zer, List.getElem?_replicate]
  split <;> simp_all [Nat.mod_one]
theorem make_b (K : Nat) (hK : K ≤ 1000000) (w : World) : (Instr.makeSlice 22 (.int .i64 (K : Int)) (.int .i64 (K : Int))).run Try.prog w = .ok (.slice (some ⟨w.heap.size, 0, none⟩) K K) (w.alloc (.cells (madeCells #[Value.int .u8 0] K) 5)) := by
  obtain ⟨i, hi, hz0, hz1, hz2⟩ := info_parts info5
  have := run_makeSlice (P := Try.prog) (w := w) 22 5 i (.int .u8 0) Try.underlying22 hi hz0 .i64 .i64 (K : Int) (K : Int) (by omega) (by omega) (by rw [hz1]; simp; omega) (by rw [hz2]; simp; omega) (by omega)
  rw [hz1, Int.toNat_natCast, Nat.mul_one] at this
  exact this
theorem rd_zer (w : World) (K : Nat) : Rd (w.alloc (.cells (madeCells #[Value.int .u8 0] K) 5)) (.slice (some ⟨w.heap.size, 0, none⟩) K K) (zer K) := rd_const w (zer K) _ K K (zer_len K).symm _ (madeList K)
set_option maxRecDepth 100000 in
set_option maxHeartbeats 12800000 in
theorem room_any (room : Int) (a : Option Addr) (len cap : Nat) (zs : List Int) (w : World) (hr : -9223372036854775808 ≤ room ∧ room ≤ 9223372036854775807) (hz : IsInts .i64 w a len cap zs) :
    Calls Try.prog 4 #[.int .i64 room, .slice a len cap] w fun e w' => e = .returned (.bool true) ∧ Mod (fun _ => False) w w' := by
  have hsh := shown_any w
  have HZ := Lib.hid hz
  have hll := hz.len_le
  have hlen : (len : Int) ≤ 9223372036854775807 := by unfold maxLen at hll; omega
  clear hz hll
  go_enter Try.func4, Try.ntmps4
  go_wp2_with (fail)
  refine hsh.mono ?_
  rintro e w1 ⟨rfl, hM1⟩
  have HM := Lib.hid hM1
  clear hM1
  go_upto_if 15 with (fail)
  go_cut [0] (fun v wx => ∃ m : Nat, v = .int .i64 (m : Int) ∧ m < 9223372036854775808 ∧ wx = w1)
  case first =>
    by_cases hneg : room < 0
    · obtain ⟨m, hm⟩ : ∃ m : Nat, (m : Int) = -(room + 1) := ⟨(-(room + 1)).toNat, by omega⟩
      have q3 : IntKind.i64.wrap (room + 1) = room + 1 := by rw [IntKind.wrap_i64]; omega
      have q4 : IntKind.i64.wrap (-(room + 1)) = (m : Int) := by rw [IntKind.wrap_i64]; omega
      go_wp2
      go_meet
      case rel => exact ⟨m, (by first | rfl | rw [hm]), by omega, rfl⟩
    · obtain ⟨m, rfl⟩ := Int.eq_ofNat_of_zero_le (show 0 ≤ room by omega)
      go_wp2
      go_meet
      case rel => exact ⟨m, (by first | rfl | rw [hm]), by omega, rfl⟩
  case rest =>
  obtain ⟨m0, rfl, hm0, hwc⟩ := hcut
  obtain rfl : w1 = wc := hwc.symm
  have t1 := tmod_nat' m0 2000
  obtain ⟨M, hM⟩ : ∃ M, m0 % 2000 = M := ⟨_, rfl⟩
  rw [hM] at t1
  have hM2 : M < 2000 := by omega
  have t1' : (m0 : Int).tmod 2000 = (M : Int) := t1
  clear hM t1
  go_wp2_with (fail)
  refine (run_new _ (M : Int) (by omega)).mono ?_
  rintro e w2 ⟨d, X2, rfl, s2⟩
  have hmx : max 0 (M : Int) = (M : Int) := by omega
  rw [hmx] at s2
  replace s2 : Run w1 d X2 (roomA M none none) w2 := s2
  have S2 := Lib.hid s2
  clear s2 hmx
  go_wp2
  go_loopw [7, 8] (fun s i wr => ∃ (n j : Nat) (x y : Option Bs) (X : Dk), s = .int .i64 n ∧ i = .int .i64 j ∧ j ≤ len ∧ j ≤ 50 ∧ n ≤ M ∧ Hid (Run w1 d X (roomA M x y) wr) ∧ Hid (ol x + ol y = n)) (fun _ i _ => 50 - (intOf i).toNat)
  case atStart => exact ⟨0, 0, none, none, X2, rfl, rfl, by omega, by omega, by omega, S2, Lib.hid rfl⟩
  case round =>
    obtain ⟨n, i, x, y, X, rfl, rfl, hi, hi50, hnM, S, I⟩ := hrel
    by_cases hlt : i < len ∧ i < 50
    · have q1 : (i : Int) < (len : Int) := by omega
      have q2 : (i : Int) < 50 := by omega
      obtain ⟨ax, z, ha, hlc, hcm, hcell, hwf⟩ := HZ.out.at_ (HM.out.trans S.out.mod (fun _ h => h.elim)) i hlt.1
      subst ha
      have hzb := wf_i64 hwf
      have e9 : IntKind.i64.wrap ((i : Int) + 1) = (i : Int) + 1 := by rw [IntKind.wrap_i64]; omega
      have e2 : (i : Int).tmod 2 = ((i % 2 : Nat) : Int) := tmod_nat' i 2
      go_upto_if 44 with (fail)
      go_cut [9] (fun v wx => ∃ m : Nat, v = .int .i64 (m : Int) ∧ wx = wr)
      case first =>
        by_cases hneg : z < 0
        · obtain ⟨m, hm⟩ : ∃ m : Nat, (m : Int) = -(z + 1) := ⟨(-(z + 1)).toNat, by omega⟩
          have q6 : IntKind.i64.wrap (z + 1) = z + 1 := by rw [IntKind.wrap_i64]; omega
          have q7 : IntKind.i64.wrap (-(z + 1)) = (m : Int) := by rw [IntKind.wrap_i64]; omega
          go_wp2
          go_meet
          case rel => exact ⟨m, (by first | rfl | rw [hm]), rfl⟩
        · obtain ⟨m, rfl⟩ := Int.eq_ofNat_of_zero_le (show 0 ≤ z by omega)
          go_wp2
          go_meet
          case rel => exact ⟨m, (by first | rfl | rw [hm]), rfl⟩
      case rest =>
      obtain ⟨m2, rfl, hwc⟩ := hcut
      obtain rfl : wr = wc := hwc.symm
      have t3 := tmod_nat' m2 300
      obtain ⟨K, hK⟩ : ∃ K, m2 % 300 = K := ⟨_, rfl⟩
      rw [hK] at t3
      have hK3 : K < 300 := by omega
      have t3' : (m2 : Int).tmod 300 = (K : Int) := t3
      have hmk := make_b K (by omega)
      have hol := I.out
      have HC : ∀ odd : Bool, Hid (∀ (W : World) (g : Addr), Mod (fun _ => False) wr W → Rd W (.slice (some g) K K) (zer K) → Calls Try.prog 11 #[.pointer (some ⟨d, 0, none⟩), .string (sv (if odd then nb else na)), .slice (some g) K K] W fun e W2 => ∃ X' x' y', e = .returned (.int .i64 (if n + K ≤ M then 0 else 14)) ∧ Run w1 d X' (roomA M x' y') W2 ∧ ol x' + ol y' = (if n + K ≤ M then n + K else n)) := fun odd => Lib.hid (fun W g hm hr => by
        obtain ⟨x', y', h1, h2, h3⟩ := room_step M x y odd (zer K) (by omega)
        rw [zer_len, hol] at h2 h3
        refine (run_append (S.out.still hm) (if odd then nb else na) _ (zer K) hr (by cases odd <;> decide) (by show (0 : Int) < _; decide) (by have := fs_len x y; show (fsOf x y).length < 1000; omega) (by show totA (fsOf x y) + _ ≤ _; rw [fs_tot, zer_len, hol]; omega)).mono ?_
        rintro e W2 ⟨X', he, hs, -⟩
        rw [h1] at hs
        rw [h2] at he
        exact ⟨X', x', y', he, hs, h3⟩)
      have q5 : IntKind.i64.wrap ((n : Int) + (K : Int)) = (n : Int) + (K : Int) := by rw [IntKind.wrap_i64]; omega
      clear hK t3 hwf hol
      rcases (show i % 2 = 0 ∨ i % 2 = 1 by omega) with hp | hp
      · rw [hp] at e2
        have e2' : (i : Int).tmod 2 = 0 := e2
        have HC0 := Lib.hid ((HC false).out)
        clear HC e2
        by_cases hf : n + K ≤ M
        · simp only [hf, if_true] at HC0
          have q8 : (n : Int) + (K : Int) ≤ (M : Int) := by omega
          have C1 : Hid (Calls Try.prog 11 #[.pointer (some ⟨d, 0, none⟩), .string ⟨#[97]⟩, .slice (some ⟨wr.heap.size + 1, 0, none⟩) K K] ((wr.alloc (.cells #[.string ⟨#[97]⟩, .string ⟨#[98]⟩] 9)).alloc (.cells (madeCells #[.int .u8 0] K) 5)).drew (fun e W2 => ∃ X' x' y', e = .returned (.int .i64 0) ∧ Run w1 d X' (roomA M x' y') W2 ∧ ol x' + ol y' = n + K)) := Lib.hid (HC0.out _ _ (((Mod.refl _ wr).alloc _).alloc _).drew (by have := rd_zer (wr.alloc (.cells #[.string ⟨#[97]⟩, .string ⟨#[98]⟩] 9)) K; rw [show (wr.alloc (.cells #[.string ⟨#[97]⟩, .string ⟨#[98]⟩] 9)).heap.size = wr.heap.size + 1 by simp] at this; exact this.mod (Mod.refl (fun _ => False) _).drew (fun _ _ h => h)))
          have C2 : Hid (Calls Try.prog 11 #[.pointer (some ⟨d, 0, none⟩), .string ⟨#[97]⟩, .slice (some ⟨wr.heap.size, 0, none⟩) K K] ((wr.alloc (.cells (madeCells #[.int .u8 0] K) 5)).alloc (.cells #[.string ⟨#[97]⟩, .string ⟨#[98]⟩] 9)).drew (fun e W2 => ∃ X' x' y', e = .returned (.int .i64 0) ∧ Run w1 d X' (roomA M x' y') W2 ∧ ol x' + ol y' = n + K)) := Lib.hid (HC0.out _ _ (((Mod.refl _ wr).alloc _).alloc _).drew ((rd_zer wr K).mod ((Mod.refl (fun _ => False) _).alloc (.cells #[.string ⟨#[97]⟩, .string ⟨#[98]⟩] 9)).drew (fun _ _ h => h)))
          clear HC0
          go_wp2
          go_region_with ((go_at_call 11; (first | with_reducible refine C1.out.mono ?_ | with_reducible refine C2.out.mono ?_); rintro e w6 ⟨X6, x6, y6, rfl, s6, h6⟩; have S6 := Lib.hid s6; have H6 := Lib.hid h6; clear s6 h6))
          all_goals
            go_wp2_with (fail)
            refine (run_used S6.out).mono ?_
            rintro e w7 ⟨rfl, hm7⟩
            rw [room_used, H6.out]
            have S7 := Lib.hid (S6.out.still hm7)
            clear hm7
            go_wp2
            exact ⟨⟨n + K, i + 1, x6, y6, X6, by go_num, by go_num, by omega, by omega, by omega, S7, H6⟩, by simp [intOf]; omega⟩
        · simp only [hf, if_false] at HC0
          have q8 : ¬ (n : Int) + (K : Int) ≤ (M : Int) := by omega
          have C1 : Hid (Calls Try.prog 11 #[.pointer (some ⟨d, 0, none⟩), .string ⟨#[97]⟩, .slice (some ⟨wr.heap.size + 1, 0, none⟩) K K] ((wr.alloc (.cells #[.string ⟨#[97]⟩, .string ⟨#[98]⟩] 9)).alloc (.cells (madeCells #[.int .u8 0] K) 5)).drew (fun e W2 => ∃ X' x' y', e = .returned (.int .i64 14) ∧ Run w1 d X' (roomA M x' y') W2 ∧ ol x' + ol y' = n)) := Lib.hid (HC0.out _ _ (((Mod.refl _ wr).alloc _).alloc _).drew (by have := rd_zer (wr.alloc (.cells #[.string ⟨#[97]⟩, .string ⟨#[98]⟩] 9)) K; rw [show (wr.alloc (.cells #[.string ⟨#[97]⟩, .string ⟨#[98]⟩] 9)).heap.size = wr.heap.size + 1 by simp] at this; exact this.mod (Mod.refl (fun _ => False) _).drew (fun _ _ h => h)))
          have C2 : Hid (Calls Try.prog 11 #[.pointer (some ⟨d, 0, none⟩), .string ⟨#[97]⟩, .slice (some ⟨wr.heap.size, 0, none⟩) K K] ((wr.alloc (.cells (madeCells #[.int .u8 0] K) 5)).alloc (.cells #[.string ⟨#[97]⟩, .string ⟨#[98]⟩] 9)).drew (fun e W2 => ∃ X' x' y', e = .returned (.int .i64 14) ∧ Run w1 d X' (roomA M x' y') W2 ∧ ol x' + ol y' = n)) := Lib.hid (HC0.out _ _ (((Mod.refl _ wr).alloc _).alloc _).drew ((rd_zer wr K).mod ((Mod.refl (fun _ => False) _).alloc (.cells #[.string ⟨#[97]⟩, .string ⟨#[98]⟩] 9)).drew (fun _ _ h => h)))
          clear HC0
          go_wp2
          go_region_with ((go_at_call 11; (first | with_reducible refine C1.out.mono ?_ | with_reducible refine C2.out.mono ?_); rintro e w6 ⟨X6, x6, y6, rfl, s6, h6⟩; have S6 := Lib.hid s6; have H6 := Lib.hid h6; clear s6 h6))
          all_goals
            go_wp2_with (fail)
            refine (run_used S6.out).mono ?_
            rintro e w7 ⟨rfl, hm7⟩
            rw [room_used, H6.out]
            have S7 := Lib.hid (S6.out.still hm7)
            clear hm7
            go_wp2
            exact ⟨⟨n, i + 1, x6, y6, X6, by go_num, by go_num, by omega, by omega, by omega, S7, H6⟩, by simp [intOf]; omega⟩
      · rw [hp] at e2
        have e2' : (i : Int).tmod 2 = 1 := e2
        have HC0 := Lib.hid ((HC true).out)
        clear HC e2
        by_cases hf : n + K ≤ M
        · simp only [hf, if_true] at HC0
          have q8 : (n : Int) + (K : Int) ≤ (M : Int) := by omega
          have C1 : Hid (Calls Try.prog 11 #[.pointer (some ⟨d, 0, none⟩), .string ⟨#[98]⟩, .slice (some ⟨wr.heap.size + 1, 0, none⟩) K K] ((wr.alloc (.cells #[.string ⟨#[97]⟩, .string ⟨#[98]⟩] 9)).alloc (.cells (madeCells #[.int .u8 0] K) 5)).drew (fun e W2 => ∃ X' x' y', e = .returned (.int .i64 0) ∧ Run w1 d X' (roomA M x' y') W2 ∧ ol x' + ol y' = n + K)) := Lib.hid (HC0.out _ _ (((Mod.refl _ wr).alloc _).alloc _).drew (by have := rd_zer (wr.alloc (.cells #[.string ⟨#[97]⟩, .string ⟨#[98]⟩] 9)) K; rw [show (wr.alloc (.cells #[.string ⟨#[97]⟩, .string ⟨#[98]⟩] 9)).heap.size = wr.heap.size + 1 by simp] at this; exact this.mod (Mod.refl (fun _ => False) _).drew (fun _ _ h => h)))
          have C2 : Hid (Calls Try.prog 11 #[.pointer (some ⟨d, 0, none⟩), .string ⟨#[98]⟩, .slice (some ⟨wr.heap.size, 0, none⟩) K K] ((wr.alloc (.cells (madeCells #[.int .u8 0] K) 5)).alloc (.cells #[.string ⟨#[97]⟩, .string ⟨#[98]⟩] 9)).drew (fun e W2 => ∃ X' x' y', e = .returned (.int .i64 0) ∧ Run w1 d X' (roomA M x' y') W2 ∧ ol x' + ol y' = n + K)) := Lib.hid (HC0.out _ _ (((Mod.refl _ wr).alloc _).alloc _).drew ((rd_zer wr K).mod ((Mod.refl (fun _ => False) _).alloc (.cells #[.string ⟨#[97]⟩, .string ⟨#[98]⟩] 9)).drew (fun _ _ h => h)))
          clear HC0
          go_wp2
          go_region_with ((go_at_call 11; (first | with_reducible refine C1.out.mono ?_ | with_reducible refine C2.out.mono ?_); rintro e w6 ⟨X6, x6, y6, rfl, s6, h6⟩; have S6 := Lib.hid s6; have H6 := Lib.hid h6; clear s6 h6))
          all_goals
            go_wp2_with (fail)
            refine (run_used S6.out).mono ?_
            rintro e w7 ⟨rfl, hm7⟩
            rw [room_used, H6.out]
            have S7 := Lib.hid (S6.out.still hm7)
            clear hm7
            go_wp2
            exact ⟨⟨n + K, i + 1, x6, y6, X6, by go_num, by go_num, by omega, by omega, by omega, S7, H6⟩, by simp [intOf]; omega⟩
        · simp only [hf, if_false] at HC0
          have q8 : ¬ (n : Int) + (K : Int) ≤ (M : Int) := by omega
          have C1 : Hid (Calls Try.prog 11 #[.pointer (some ⟨d, 0, none⟩), .string ⟨#[98]⟩, .slice (some ⟨wr.heap.size + 1, 0, none⟩) K K] ((wr.alloc (.cells #[.string ⟨#[97]⟩, .string ⟨#[98]⟩] 9)).alloc (.cells (madeCells #[.int .u8 0] K) 5)).drew (fun e W2 => ∃ X' x' y', e = .returned (.int .i64 14) ∧ Run w1 d X' (roomA M x' y') W2 ∧ ol x' + ol y' = n)) := Lib.hid (HC0.out _ _ (((Mod.refl _ wr).alloc _).alloc _).drew (by have := rd_zer (wr.alloc (.cells #[.string ⟨#[97]⟩, .string ⟨#[98]⟩] 9)) K; rw [show (wr.alloc (.cells #[.string ⟨#[97]⟩, .string ⟨#[98]⟩] 9)).heap.size = wr.heap.size + 1 by simp] at this; exact this.mod (Mod.refl (fun _ => False) _).drew (fun _ _ h => h)))
          have C2 : Hid (Calls Try.prog 11 #[.pointer (some ⟨d, 0, none⟩), .string ⟨#[98]⟩, .slice (some ⟨wr.heap.size, 0, none⟩) K K] ((wr.alloc (.cells (madeCells #[.int .u8 0] K) 5)).alloc (.cells #[.string ⟨#[97]⟩, .string ⟨#[98]⟩] 9)).drew (fun e W2 => ∃ X' x' y', e = .returned (.int .i64 14) ∧ Run w1 d X' (roomA M x' y') W2 ∧ ol x' + ol y' = n)) := Lib.hid (HC0.out _ _ (((Mod.refl _ wr).alloc _).alloc _).drew ((rd_zer wr K).mod ((Mod.refl (fun _ => False) _).alloc (.cells #[.string ⟨#[97]⟩, .string ⟨#[98]⟩] 9)).drew (fun _ _ h => h)))
          clear HC0
          go_wp2
          go_region_with ((go_at_call 11; (first | with_reducible refine C1.out.mono ?_ | with_reducible refine C2.out.mono ?_); rintro e w6 ⟨X6, x6, y6, rfl, s6, h6⟩; have S6 := Lib.hid s6; have H6 := Lib.hid h6; clear s6 h6))
          all_goals
            go_wp2_with (fail)
            refine (run_used S6.out).mono ?_
            rintro e w7 ⟨rfl, hm7⟩
            rw [room_used, H6.out]
            have S7 := Lib.hid (S6.out.still hm7)
            clear hm7
            go_wp2
            exact ⟨⟨n, i + 1, x6, y6, X6, by go_num, by go_num, by omega, by omega, by omega, S7, H6⟩, by simp [intOf]; omega⟩
    · have hy : ol y ≤ M := by have := I.out; omega
      obtain ⟨L, hL⟩ : ∃ L, (y.getD []).length = L := ⟨_, rfl⟩
      have hLM : L ≤ M := by have : ol y = (y.getD []).length := rfl; omega
      have hex : ¬ (i : Int) < (len : Int) ∨ ((i : Int) < (len : Int) ∧ ¬ (i : Int) < 50) := by omega
      have hmk := make_b (M - L) (by omega)
      have hcs : ((M - L : Nat) : Int) = (M : Int) - (L : Int) := by omega
      rw [hcs] at hmk
      have q5 : IntKind.i64.wrap ((M : Int) - (L : Int)) = (M : Int) - (L : Int) := by rw [IntKind.wrap_i64]; omega
      have hAP := room_fit (room := M) (x := none) (y := y) (n := nc) (z := zer (M - L)) (by decide) (by rw [zer_len]; have : ol y = L := hL; show 0 + ol y + (M - L) ≤ M; omega)
      have HAP := Lib.hid hAP
      have HL := Lib.hid hL
      clear hAP hL hcs
      rcases hex with hex | ⟨hex, hex2⟩
      · go_wp2_with (fail)
        refine (run_remove S.out na (by decide) (by show (0 : Int) < _; decide)).mono ?_
        rintro e w6 ⟨X6, rfl, s6, -⟩
        rw [room_remove] at s6
        go_wp2_with (fail)
        refine (run_read s6 nb (by decide)).mono ?_
        rintro e w7 ⟨vb, rfl, rb, hm7⟩
        rw [room_read] at rb
        have S7 := Lib.hid (s6.still hm7)
        obtain ⟨ab, cb, hvb, _, _⟩ := (rdc_own rb).2
        subst hvb
        rw [HL.out]
        clear s6 hm7 rb
        have hus : usedA (roomA M none y) = L := by rw [room_used]; have : ol y = L := HL.out; show 0 + ol y = L; omega
        go_wp2_with (fail)
        refine (run_used S7.out).mono ?_
        rintro e w8 ⟨rfl, hm8⟩
        rw [hus]
        have S8 := Lib.hid (S7.out.still hm8)
        clear hm8
        go_wp2_with (fail)
        refine (run_append (S8.out.still ((Mod.refl _ _).alloc _)) nc _ (zer (M - L)) (rd_zer w8 (M - L)) (by decide) (by show (0 : Int) < _; decide) (by have := fs_len none y; show (fsOf none y).length < 1000; omega) (by show totA (fsOf none y) + _ ≤ _; rw [fs_tot, zer_len]; have : ol y = L := HL.out; show 0 + ol y + _ ≤ _; omega)).mono ?_
        rintro e w9 ⟨X9, rfl, s9, -⟩
        rw [HAP.out] at s9 ⊢
        have S9 := Lib.hid s9
        clear s9
        go_wp2
        go_ret
        exact ⟨rfl, HM.out.trans S9.out.mod (fun _ h => h.elim)⟩
      · go_wp2_with (fail)
        refine (run_remove S.out na (by decide) (by show (0 : Int) < _; decide)).mono ?_
        rintro e w6 ⟨X6, rfl, s6, -⟩
        rw [room_remove] at s6
        go_wp2_with (fail)
        refine (run_read s6 nb (by decide)).mono ?_
        rintro e w7 ⟨vb, rfl, rb, hm7⟩
        rw [room_read] at rb
        have S7 := Lib.hid (s6.still hm7)
        obtain ⟨ab, cb, hvb, _, _⟩ := (rdc_own rb).2
        subst hvb
        rw [HL.out]
        clear s6 hm7 rb
        have hus : usedA (roomA M none y) = L := by rw [room_used]; have : ol y = L := HL.out; show 0 + ol y = L; omega
        go_wp2_with (fail)
        refine (run_used S7.out).mono ?_
        rintro e w8 ⟨rfl, hm8⟩
        rw [hus]
        have S8 := Lib.hid (S7.out.still hm8)
        clear hm8
        go_wp2_with (fail)
        refine (run_append (S8.out.still ((Mod.refl _ _).alloc _)) nc _ (zer (M - L)) (rd_zer w8 (M - L)) (by decide) (by show (0 : Int) < _; decide) (by have := fs_len none y; show (fsOf none y).length < 1000; omega) (by show totA (fsOf none y) + _ ≤ _; rw [fs_tot, zer_len]; have : ol y = L := HL.out; show 0 + ol y + _ ≤ _; omega)).mono ?_
        rintro e w9 ⟨X9, rfl, s9, -⟩
        rw [HAP.out] at s9 ⊢
        have S9 := Lib.hid s9
        clear s9
        go_wp2
        go_ret
        exact ⟨rfl, HM.out.trans S9.out.mod (fun _ h => h.elim)⟩
end Go.Proofs.Ytoceddcppbddnaa
