/-
  CursorTabs: for every three numbers the law returns true. No condition.
-/
import Derived.Test.YtbmflpojcgocaaaRows
import Derived.WalkKit
import Derived.ProofKit
import Derived.OpenShut
import Derived.ShutString
import Derived.Test.YtbmflpojcgocaaaCs
import Derived.Test.YtbmflpojcgocaaaPb
import Derived.Below
import Derived.ChangeOld
namespace Go.Proofs.Ytbmflpojcgocaaa.cursorTabs
open Go.ChangeShapes Go.WideShapes Go.ChangeAt Go.RowKit
open Go.ChangeMaps (open_string shut_string)
set_option linter.unusedVariables false      -- a walk need not use every 'w<i>' (that an integer argument fits its kind)

theorem own : ownKnob Try.prog.godebug = none := by kernel_rfl

open Mem Pl
theorem and31 (x : Int) : 0 ≤ Go.bits .and .i64 x 31 ∧ Go.bits .and .i64 x 31 ≤ 31 := by
  unfold Go.bits
  simp only [BitVec.toNat_and]
  have h : ((BitVec.ofInt (IntKind.bits .i64) x).toNat &&& (BitVec.ofInt (IntKind.bits .i64) 31).toNat) ≤ 31 := Nat.and_le_right
  generalize ((BitVec.ofInt (IntKind.bits .i64) x).toNat &&& (BitVec.ofInt (IntKind.bits .i64) 31).toNat) = m at h
  rw [IntKind.wrap_i64]
  omega

/-- A text and one more byte, or some. -/
theorem add_str (l r : List UInt8) (h : l.length + r.length ≤ 1000) (w : World) : (Op.stringOp .add (str l) ⟨r.toArray⟩).run Try.prog w = .ok (.string (str (l ++ r))) w := by
  have e : str l ++ ⟨r.toArray⟩ = str (l ++ r) := str_inj (by simp [str])
  rw [← e]
  exact run_string_add_sum (P := Try.prog) w _ _ (by simp [str, ByteArray.size]; omega)

/-- The text so far. -/
def tx (a b c : Nat) : ByteArray := str (List.replicate a 32 ++ List.replicate b 9 ++ List.replicate c 32)
theorem tx_a (a : Nat) (h : a ≤ 40) (w : World) : (Op.stringOp .add (tx a 0 0) ⟨#[32]⟩).run Try.prog w = .ok (.string (tx (a + 1) 0 0)) w := by
  have := add_str (List.replicate a 32 ++ List.replicate 0 9 ++ List.replicate 0 32) [32] (by simp; omega) w
  rw [show tx (a + 1) 0 0 = str (List.replicate a 32 ++ List.replicate 0 9 ++ List.replicate 0 32 ++ [32]) from by simp [tx, List.replicate_succ']]
  exact this
theorem tx_b (a b : Nat) (h : a + b ≤ 80) (w : World) : (Op.stringOp .add (tx a b 0) ⟨#[9]⟩).run Try.prog w = .ok (.string (tx a (b + 1) 0)) w := by
  have := add_str (List.replicate a 32 ++ List.replicate b 9 ++ List.replicate 0 32) [9] (by simp; omega) w
  rw [show tx a (b + 1) 0 = str (List.replicate a 32 ++ List.replicate b 9 ++ List.replicate 0 32 ++ [9]) from by simp [tx, List.replicate_succ']]
  exact this
theorem tx_c (a b c : Nat) (h : a + b + c ≤ 120) (w : World) : (Op.stringOp .add (tx a b c) ⟨#[32]⟩).run Try.prog w = .ok (.string (tx a b (c + 1))) w := by
  have := add_str (List.replicate a 32 ++ List.replicate b 9 ++ List.replicate c 32) [32] (by simp; omega) w
  rw [show tx a b (c + 1) = str (List.replicate a 32 ++ List.replicate b 9 ++ List.replicate c 32 ++ [32]) from by simp [tx, List.replicate_succ']]
  exact this
theorem tx_end (a b c : Nat) (h : a + b + c ≤ 120) (w : World) : (Op.stringOp .add (tx a b c) ⟨#[120, 32, 121]⟩).run Try.prog w = .ok (.string (str (tabText a b c))) w :=
  add_str (List.replicate a 32 ++ List.replicate b 9 ++ List.replicate c 32) [120, 32, 121] (by simp; omega) w

set_option maxRecDepth 100000 in
set_option maxHeartbeats 1600000 in
theorem walk (a0 : Int) (a1 : Int) (a2 : Int) (w0 : (Lit.int .i64 a0).wf = true) (w1 : (Lit.int .i64 a1).wf = true) (w2 : (Lit.int .i64 a2).wf = true) (w : World) :
    Calls Try.prog 5 #[.int .i64 a0, .int .i64 a1, .int .i64 a2] w fun e w' => e = .returned (.bool true) ∧ Below w.heap.size w w' := by
  clear w0 w1 w2
  have hA := and31 a0
  have hB := and31 a1
  have hC := and31 a2
  obtain ⟨A, eA⟩ := Int.eq_ofNat_of_zero_le hA.1
  obtain ⟨B, eB⟩ := Int.eq_ofNat_of_zero_le hB.1
  obtain ⟨C, eC⟩ := Int.eq_ofNat_of_zero_le hC.1
  rw [eA] at hA
  rw [eB] at hB
  rw [eC] at hC
  have bA : A ≤ 31 := by omega
  have bB : B ≤ 31 := by omega
  have bC : C ≤ 31 := by omega
  clear hA hB hC
  go_enter Try.func5, Try.ntmps5
  go_wp2_with fail
  refine (shown_any _).mono ?_
  rintro e w1 ⟨rfl, hM⟩
  have HM := Lib.hid hM
  clear hM
  go_wp2_with fail
  go_loop [8, 9] (fun s i => ∃ k : Nat, i = .int .i64 k ∧ k ≤ A ∧ s = .string (tx k 0 0)) (fun _ i => A - (intOf i).toNat)
  case atStart => exact ⟨0, rfl, Nat.zero_le _, rfl⟩
  case round =>
    obtain ⟨k, rfl, hk, rfl⟩ := hrel
    by_cases hlt : k < A
    · have had := tx_a k (by omega)
      go_wp2
      go_round
      case rel => exact ⟨k + 1, by go_num, by omega, rfl⟩
      case measure => simp [intOf]; omega
    · obtain rfl : A = k := by omega
      go_wp2
      go_loop [8, 10] (fun s i => ∃ k : Nat, i = .int .i64 k ∧ k ≤ B ∧ s = .string (tx A k 0)) (fun _ i => B - (intOf i).toNat)
      case atStart => exact ⟨0, rfl, Nat.zero_le _, rfl⟩
      case round =>
        obtain ⟨k, rfl, hk, rfl⟩ := hrel
        by_cases hlt : k < B
        · have had := tx_b A k (by omega)
          go_wp2
          go_round
          case rel => exact ⟨k + 1, by go_num, by omega, rfl⟩
          case measure => simp [intOf]; omega
        · obtain rfl : B = k := by omega
          go_wp2
          go_loop [8, 11] (fun s i => ∃ k : Nat, i = .int .i64 k ∧ k ≤ C ∧ s = .string (tx A B k)) (fun _ i => C - (intOf i).toNat)
          case atStart => exact ⟨0, rfl, Nat.zero_le _, rfl⟩
          case round =>
            obtain ⟨k, rfl, hk, rfl⟩ := hrel
            by_cases hlt : k < C
            · have had := tx_c A B k (by omega)
              go_wp2
              go_round
              case rel => exact ⟨k + 1, by go_num, by omega, rfl⟩
              case measure => simp [intOf]; omega
            · obtain rfl : C = k := by omega
              have had := tx_end A B C (by omega)
              obtain ⟨line, hline⟩ : ∃ line, str (tabText A B C) = line := ⟨_, rfl⟩
              have hls : line.data.toList = tabText A B C := by rw [← hline, str_list]
              have hsz : line.size = A + B + C + 3 := by rw [← size_list, hls, tab_len]
              have hE := end_run line.data.toList s0 (Nat.zero_le _)
              have hR := tab_run A B C
              have e1 : endAt line.data.toList s0 = A + B + C := by rw [hE.1, hls]; show 0 + (run (tabText A B C) 0).1 = _; rw [hR]; simp
              have e2 : endCol line.data.toList s0 = tabCol A B C := by rw [hE.2, hls]; show (run (tabText A B C) 0).2 = _; rw [hR]
              obtain ⟨N, hN⟩ : ∃ N, tabCol A B C = N := ⟨_, rfl⟩
              have hcol : ((endCol line.data.toList s0 : Nat) : Int) - (s0.col : Int) = (N : Int) := by rw [e2, hN]; simp [s0]
              have hNb : N ≤ 1000 := by rw [← hN]; unfold tabCol; split <;> omega
              have hnext : bt line (endAt line.data.toList s0) = 120 := by
                obtain ⟨b, hb, hbb⟩ := bt_get line (A + B + C) (by omega)
                rw [e1, hbb]
                have : line.data.toList[A + B + C]? = some 120 := by
                  rw [hls, ← List.head?_drop, tab_drop]; rfl
                rw [this] at hb
                obtain rfl := Option.some.inj hb
                rfl
              have hbeh : line.extract (endAt line.data.toList s0) line.size = ⟨#[120, 32, 121]⟩ := by
                apply str_inj
                rw [ext_list, e1, hls, tab_drop]
              -- behind Move(1)
              obtain ⟨s1, hs1⟩ : ∃ s1, moves line.data.toList (1 : Int).toNat ⟨endAt line.data.toList s0, endCol line.data.toList s0, 0⟩ = s1 := ⟨_, rfl⟩
              have hs1' : s1 = ⟨A + B + C + 1, N + 1, 0⟩ := by
                rw [← hs1, e1, e2, hN]
                have : line.data.toList[A + B + C]? = some 120 := by rw [hls, ← List.head?_drop, tab_drop]; rfl
                show moves _ 1 _ = _
                simp [moves, this, nxt]
              have hdrop : line.data.toList.drop (A + B + C + 1) = [32, 121] := by
                rw [hls, ← List.drop_drop, tab_drop]; rfl
              have hrest : str (restOf line s1) = ⟨#[32, 121]⟩ := by
                rw [hs1']; apply str_inj; rw [str_list]; unfold restOf; simp only; rw [hdrop]; rfl
              have hE1 := end_run line.data.toList s1 (by rw [hs1', size_list]; show A + B + C + 1 ≤ _; omega)
              have hind : ((endCol line.data.toList s1 : Nat) : Int) - (s1.col : Int) = 1 := by
                rw [hE1.2, hs1']
                show (((run (line.data.toList.drop (A + B + C + 1)) (N + 1 + 0)).2 : Nat) : Int) - ((N + 1 : Nat) : Int) = 1
                rw [hdrop]
                show (((N + 1 + 0 + 1 : Nat)) : Int) - ((N + 1 : Nat) : Int) = 1
                omega
              have hf0 : Fits line s0 := fits_of (ok0 _) (by omega)
              have hf1 : Fits line s1 := ⟨by rw [hs1']; show A + B + C + 1 ≤ _; omega, by omega, by
                rw [hs1']; show N + 1 + 0 ≤ 4 * (A + B + C + 1); rw [← hN]; unfold tabCol; split <;> omega⟩
              have hp1 : s1.part ≤ 4 := by rw [hs1']; simp
              have hc1 : ((s1.col : Nat) : Int) = (N : Int) + 1 := by rw [hs1']; simp
              have HL := Lib.hid hline
              have Hcol := Lib.hid hcol
              have Hnext := Lib.hid hnext
              have Hbeh := Lib.hid hbeh
              have Hs1 := Lib.hid hs1
              have Hrest := Lib.hid hrest
              have Hind := Lib.hid hind
              have Hc1 := Lib.hid hc1
              have hn1 : 0 < B → (A : Int) - (A : Int) % 4 + 4 * (B : Int) + (C : Int) = (N : Int) := fun h => by rw [← hN]; unfold tabCol; rw [if_pos h]; omega
              have hn0 : ¬ 0 < B → (A : Int) + (C : Int) = (N : Int) := fun h => by rw [← hN]; unfold tabCol; rw [if_neg h]; omega
              have Hn1 := Lib.hid hn1
              have Hn0 := Lib.hid hn0
              clear hline hls hsz hE hR e1 e2 hN hcol hnext hbeh hs1 hs1' hdrop hrest hE1 hind hc1 hn1 hn0
              by_cases hB : 0 < B
              all_goals
                go_wp2_with fail
                rw [HL.out]
                first | rw [Hn1.out hB] | rw [Hn0.out hB]
                refine (new_cur line _).mono ?_
                rintro e wa ⟨ga, ga1, rfl, hA, hMa⟩
                have hm2 : Mod (fun i => w.heap.size ≤ i) w wa := (HM.out.trans hMa (fun _ h => h.elim)).mono (fun _ h => h.elim)
                have g1 : w.heap.size ≤ ga := by have := HM.out.size; omega
                clear hMa ga1
                go_wp2_with fail
                refine (indent_any ga line s0 _ hA hf0).mono ?_
                rintro e w3 ⟨rfl, hd3⟩
                replace hA := hA.dr hd3
                replace hm2 := hm2.trans (hd3.mod (S := fun _ => False)) (fun _ h => h.elim)
                clear hd3
                rw [Hcol.out]
                go_wp2_with fail
                refine (nextC_any ga line s0 _ hA hf0).mono ?_
                rintro e w4 ⟨rfl, hd3⟩
                replace hA := hA.dr hd3
                replace hm2 := hm2.trans (hd3.mod (S := fun _ => False)) (fun _ h => h.elim)
                clear hd3
                rw [Hnext.out]
                go_wp2_with fail
                refine (behind_any ga line s0 _ hA hf0).mono ?_
                rintro e w5 ⟨rfl, hd3⟩
                replace hA := hA.dr hd3
                replace hm2 := hm2.trans (hd3.mod (S := fun _ => False)) (fun _ h => h.elim)
                clear hd3
                rw [Hbeh.out]
                go_wp2_with fail
                refine (move_any ga line s0 1 _ hA hf0 (by omega) (by omega)).mono ?_
                rintro e w6 ⟨rfl, hA6, hM6, _⟩
                rw [Hs1.out] at hA6
                replace hm2 := hm2.trans hM6 (fun i hi => .inl (by omega))
                clear hM6 hA
                go_wp2_with fail
                refine (column_any ga line _ _ hA6).mono ?_
                rintro e w7 ⟨rfl, rfl⟩
                rw [Hc1.out]
                go_wp2_with fail
                refine (rest_any ga line _ _ hA6 hf1 hp1).mono ?_
                rintro e w8 ⟨rfl, hM8⟩
                replace hA6 := hA6.mod hM8 (fun h => h)
                replace hm2 := hm2.trans hM8 (fun _ h => h.elim)
                clear hM8
                rw [Hrest.out]
                go_wp2_with fail
                refine (indent_any ga line _ _ hA6 hf1).mono ?_
                rintro e w9 ⟨rfl, hd3⟩
                replace hm2 := hm2.trans (hd3.mod (S := fun _ => False)) (fun _ h => h.elim)
                clear hd3
                rw [Hind.out]
                go_wp2
                go_ret
                exact ⟨rfl, hm2.below_of (Nat.le_refl _) (fun _ h => h)⟩

/-! ### THE ROW's STEP: WRITTEN OUT: LEAVE IT -/
set_option maxRecDepth 100000 in
theorem lifted (os : Os) (started : os.Started) (H : Type) (enc : TypeId × Value → H) :
    ReturnsInHanded {} Try.checked os 5 .any (Rows.cursorTabsSpec.pre6 enc Try.prog Try.f5 Rows.cursorTabsRow.domain false) (Rows.cursorTabsSpec.post enc Try.prog Try.f5 false true false false) := by
  refine returnsInHanded_of_change (C := Try.checked) own started (by kernel_rfl) Try.func5
    (ChangeSpec.witness6 (enc := enc) (C := Try.checked) false ⟨#[], #[.int .i64 0, .int .i64 0, .int .i64 0], []⟩ 8 (by kernel_rfl) (by kernel_rfl) (by kernel_rfl) (by kernel_rfl)) ?_
  intro W base args ds gs before hval0 hW hcnd _
  have hval : ∀ (j : Nat) t v, Try.f5.params[j]? = some t → args[j]? = some v → Value.okWide Try.prog W .any base t v := hval0
  have hW' := hW
  obtain ⟨p, q, hA0, hV, rfl, hfz, hnd⟩ := hW
  have hA : DataW.TrodAll enc Try.prog W 0 (fun _ => true) true Try.f5.params.toList args.toList ds p := hA0
  rw [Try.params5] at hA hval
  obtain ⟨v0, vs0, d0, ds0, p0, q0, hargs, rfl, rfl, h0, r0⟩ := trodAll_cons hA
  obtain ⟨v1, vs1, d1, ds1, p1, q1, rfl, rfl, rfl, h1, r1⟩ := trodAll_cons r0
  obtain ⟨v2, vs2, d2, ds2, p2, q2, rfl, rfl, rfl, h2, r2⟩ := trodAll_cons r1
  obtain ⟨rfl, rfl, rfl⟩ := trodAll_nil r2
  obtain rfl : args = #[v0, v1, v2] := by cases args; simp_all
  obtain ⟨rfl, rfl⟩ := trodVars_none hV
  obtain ⟨a0, rfl, rfl, rfl, w0⟩ := open_int Try.underlying3 (hval 0 3 v0 rfl rfl) h0
  obtain ⟨a1, rfl, rfl, rfl, w1⟩ := open_int Try.underlying3 (hval 1 3 v1 rfl rfl) h1
  obtain ⟨a2, rfl, rfl, rfl, w2⟩ := open_int Try.underlying3 (hval 2 3 v2 rfl rfl) h2
  clear hA0 hval0
  refine (walk a0 a1 a2 w0 w1 w2 W).mono fun e W' ⟨he, bel⟩ => ?_
  subst he
  exact ⟨_, rfl, _, _, _, [], _, [], hW', trodAll_mk1 (shut_bool Try.underlying4 _), (trodAll_cons_mk (shut_int Try.underlying3 w0) (trodAll_cons_mk (shut_int Try.underlying3 w1) (trodAll_cons_mk (shut_int Try.underlying3 w2) trodAll_mk0))), rfl, bel.frame _, fun h => by cases h⟩

theorem over : Rows.cursorTabsRow.holds Try.pinned (OpenSpec.ofChange Rows.cursorTabsSpec) :=
  OpenClaim.holds_of_wide 5 Try.f5 rfl rfl rfl rfl rfl rfl rfl ⟨rfl, rfl, rfl, rfl, rfl⟩ rfl rfl rfl rfl rfl (by kernel_rfl) Try.func5 (by kernel_rfl)
    (of_decide_eq_true (by kernel_rfl)) (by unfold Func.isWrapper; first | (rw [if_pos (by decide +kernel)]; kernel_rfl) | (rw [if_neg (by decide +kernel)]; exact ⟨rfl, rfl⟩))
    (fun os started H enc _ => lifted os started H enc)

/-- ████ THE STATEMENT ████ -/
theorem proved : Rows.CursorTabsSaid :=
  over
#print axioms proved
end Go.Proofs.Ytbmflpojcgocaaa.cursorTabs
