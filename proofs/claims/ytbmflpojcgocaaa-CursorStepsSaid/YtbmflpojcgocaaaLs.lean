/-
  CursorSteps: for every line and every list of pieces the law returns true, and what was handed in reads as it did. No condition.
-/
import Derived.Test.YtbmflpojcgocaaaRows
import Derived.WalkKit
import Derived.ProofKit
import Derived.OpenShut
import Derived.ShutString
import Derived.ChangeOld
import Derived.Below
import Derived.Test.YtbmflpojcgocaaaCs
namespace Go.Proofs.Ytbmflpojcgocaaa.cursorSteps
open Go.ChangeShapes Go.WideShapes Go.ChangeAt Go.RowKit Mem Pl
open Go.ChangeMaps (open_string shut_string)
set_option linter.unusedVariables false

theorem own : ownKnob Try.prog.godebug = none := by kernel_rfl
theorem laidOut : laidOutB Try.prog = true := by kernel_rfl

/-- WHAT THE WALK IS TOLD OF A SLICE OF INTEGERS THAT CAME IN: it is nil; or it leads to a row of 'cap' cells, the numbers 'zs' (the first 'len' are its elements, the rest its spare room), each fitting its kind. -/
def IsRow (k : IntKind) (w : World) (a : Option Addr) (len cap : Nat) (zs : List Int) : Prop :=
  (a = none ∧ len = 0 ∧ cap = 0 ∧ zs = []) ∨
  ∃ x, a = some x ∧ len ≤ cap ∧ cap ≤ maxLen ∧ zs.length = cap ∧ (∀ i, i < zs.length → w.cell? (x.add i) = some (.int k (zs.getD i 0))) ∧ ∀ n ∈ zs, (Lit.int k n).wf = true

theorem and7 (x : Int) : 0 ≤ Go.bits .and .i64 x 7 ∧ Go.bits .and .i64 x 7 ≤ 7 := by
  unfold Go.bits
  simp only [BitVec.toNat_and]
  have h : ((BitVec.ofInt (IntKind.bits .i64) x).toNat &&& (BitVec.ofInt (IntKind.bits .i64) 7).toNat) ≤ 7 := Nat.and_le_right
  generalize ((BitVec.ofInt (IntKind.bits .i64) x).toNat &&& (BitVec.ofInt (IntKind.bits .i64) 7).toNat) = m at h
  rw [IntKind.wrap_i64]
  omega

def s0 : St := ⟨0, 0, 0⟩
theorem ok0 (l : List UInt8) : Ok l s0 := ⟨Nat.zero_le _, by decide, by decide⟩
theorem fits_of {line : ByteArray} {s : St} (h : Ok line.data.toList s) (hl : line.size ≤ 3100) : Fits line s := ⟨by rw [← size_list]; exact h.1, hl, h.2.1⟩

/-- What a round of the pieces' loop leaves. -/
structure Three (w wr : World) (ga gb gd : Nat) (line : ByteArray) (sa : St) : Prop where
  a : Cur wr ga line sa
  b : Cur wr gb line s0
  d : Cur wr gd line s0
  m : Mod (fun i => w.heap.size ≤ i) w wr

set_option maxRecDepth 100000 in
set_option maxHeartbeats 1600000 in
theorem walk (a0 : ByteArray) (a1 : Option Addr) (len1 cap1 : Nat) (z1 : List Int) (w : World) (w0 : a0.size ≤ maxLen) (w1 : IsRow .i64 w a1 len1 cap1 z1) :
    Calls Try.prog 3 #[.string a0, .slice a1 len1 cap1] w fun e w' => e = .returned (.bool true) ∧ Below w.heap.size w w' := by
  unfold maxLen at w0
  have hlen : len1 ≤ 9223372036854775807 := by
    rcases w1 with ⟨_, h, _⟩ | ⟨_, _, h1, h2, _⟩
    · omega
    · unfold maxLen at h2; omega
  have W1 := Lib.hid w1
  clear w1
  go_enter Try.func3, Try.ntmps3
  go_wp2_with fail
  refine (shown_any _).mono ?_
  rintro e w1 ⟨rfl, hM⟩
  have HM := Lib.hid hM
  clear hM
  go_upto_if 17 with fail
  go_cut [0] (fun v wx => ∃ line : ByteArray, v = .string line ∧ line.size ≤ 3000 ∧ w1 = wx)
  case first =>
    by_cases h : 3000 < a0.size
    · go_wp2
      go_meet
      case rel => exact ⟨_, rfl, by simp [ByteArray.size_extract]; omega, rfl⟩
    · go_wp2
      go_meet
      case rel => exact ⟨_, rfl, by omega, rfl⟩
  case rest =>
    obtain ⟨line, rfl, hl, rfl⟩ := hcut
    go_wp2_with fail
    refine (new_cur line _).mono ?_
    rintro e wa ⟨ga, ga1, rfl, hA, hMa⟩
    go_wp2_with fail
    refine (new_cur line _).mono ?_
    rintro e wb ⟨gb, gb1, rfl, hB, hMb⟩
    go_wp2_with fail
    refine (new_cur line _).mono ?_
    rintro e wd ⟨gd, gd1, rfl, hD, hMd⟩
    have H0 : Three w wd ga gb gd line s0 :=
      ⟨(hA.mod hMb (fun h => h)).mod hMd (fun h => h), hB.mod hMd (fun h => h), hD, ((HM.out.trans hMa (fun _ h => h.elim)).trans hMb (fun _ h => h.elim)).trans hMd (fun _ h => h.elim) |>.mono (fun _ h => h.elim)⟩
    have g1 : w.heap.size ≤ ga := by have := HM.out.size; omega
    have g2 : ga < gb := by have := hA.lt; omega
    have g3 : gb < gd := by have := hB.lt; omega
    have HH0 := Lib.hid H0
    clear hA hMa hB hMb hD hMd H0 ga1 gb1 gd1
    go_wp2_with fail
    go_loopw [9, 10, 11] (fun s i n wr => ∃ S k : Nat, s = .int .i64 S ∧ i = .int .i64 k ∧ k ≤ 30 ∧ k ≤ len1 ∧ S ≤ 7 * k ∧ Hid (Three w wr ga gb gd line (iter line.data.toList S s0))) (fun _ i _ _ => 30 - (intOf i).toNat)
    case atStart => exact ⟨0, 0, rfl, rfl, by omega, by omega, by omega, HH0⟩
    case round =>
      obtain ⟨S, k, rfl, rfl, h1, h2, h3, hT⟩ := hrel
      by_cases hlt : k < len1 ∧ k < 30
      · obtain ⟨hk1, hk2⟩ := hlt
        rcases W1.out with ⟨_, h, _⟩ | ⟨x, rfl, q1, q2, q3, q4, q5⟩
        · omega
        have hc := q4 k (by omega)
        have hc' : wr.cell? (x.add k) = some (.int .i64 (z1.getD k 0)) := (World.cell?_of_block (w := w) (hT.out.m.block _ (World.block_lt_of_cell? w _ hc) (by have := World.block_lt_of_cell? w _ hc; omega))).trans hc
        clear q4 q5 hc
        have h7 := and7 (z1[k]?.getD 0)
        obtain ⟨p, hp⟩ := Int.eq_ofNat_of_zero_le h7.1
        rw [hp] at h7
        have Hp := Lib.hid hp
        clear hp
        go_wp2_with fail
        rw [Hp.out]
        have hok := ok_iter line.data.toList S s0 (ok0 _)
        refine (skip_any ga line _ p _ hT.out.a (fits_of hok (by omega)) hok.2.2 (by omega) (by omega)).mono ?_
        rintro e w2 ⟨rfl, hC2, hM2, _⟩
        have hT2 : Three w w2 ga gb gd line (iter line.data.toList (S + p) s0) := by
          rw [iter_add, show p = ((p : Int)).toNat from rfl]
          exact ⟨hC2, hT.out.b.mod hM2 (by omega), hT.out.d.mod hM2 (by omega), hT.out.m.trans hM2 (fun i hi => .inl (by omega))⟩
        have HT2 := Lib.hid hT2
        clear hC2 hM2 hT2 hok
        go_wp2
        go_roundw
        case rel => exact ⟨S + p, k + 1, by go_num, by go_num, by omega, by omega, by omega, HT2⟩
        case measure => simp [intOf]; omega
      · have hx : (k < len1 ∧ ¬ k < 30) ∨ ¬ k < len1 := by omega
        have hok := ok_iter line.data.toList S s0 (ok0 _)
        obtain ⟨i1, i2, i3, i4⟩ := iter_end line.data.toList S s0
        have hE0 := end_bd line.data.toList s0 (Nat.zero_le _)
        have hlen' := size_list line
        have hcol := i3 (Nat.zero_le _)
        obtain ⟨T, hTT⟩ : ∃ T, endCol line.data.toList s0 = T := ⟨_, rfl⟩
        rw [hTT] at hcol hE0
        have ht4 : T ≤ 4 * line.size := by simp only [s0] at hE0; omega
        obtain ⟨K, hK⟩ : ∃ K, min S T = K := ⟨_, rfl⟩
        have hKc : ((iter line.data.toList S s0).col : Int) - (s0.col : Int) = (K : Int) := by rw [hcol]; simp only [s0]; omega
        have eK : ((K : Int) == min (S : Int) (T : Int)) = true := by rw [beq_iff_eq]; omega
        have hTc : ((endCol line.data.toList s0 : Nat) : Int) - (s0.col : Int) = (T : Int) := by rw [hTT]; simp [s0]
        -- the third cursor, passed to its end
        obtain ⟨sd, hsd⟩ : ∃ sd, iter line.data.toList (1099511627776 : Int).toNat s0 = sd := ⟨_, rfl⟩
        have hdk := ok_iter line.data.toList (1099511627776 : Int).toNat s0 (ok0 _)
        obtain ⟨j1, j2, j3, j4⟩ := iter_end line.data.toList (1099511627776 : Int).toNat s0
        have hdc := j3 (Nat.zero_le _)
        have hstop := iter_all line.data.toList (1099511627776 : Int).toNat s0 (Nat.zero_le _) (by rw [hTT]; simp only [s0]; omega)
        rw [hsd] at hdk hdc hstop
        rw [hTT] at hdc
        have hDc : ((iter line.data.toList (1099511627776 : Int).toNat s0).col : Int) - (s0.col : Int) = (T : Int) := by rw [hsd, hdc]; simp only [s0]; omega
        obtain ⟨z1', z2', z3'⟩ := stop_end _ _ hstop
        have hrest : line.extract (endAt line.data.toList sd) line.size = str (restOf line sd) := by
          apply str_inj
          rw [ext_list, str_list, z2']
          simp [restOf, z1']
        have hKn := Lib.hid hKc
        have hTn := Lib.hid hTc
        have hDn := Lib.hid hDc
        have hSD := Lib.hid hsd
        have hRest := Lib.hid hrest
        have Hok := Lib.hid hok
        have Hdk := Lib.hid hdk
        clear i1 i2 i3 i4 hE0 hcol hTT hKc hok hlen' hK hTc hsd hdk j1 j2 j3 j4 hdc hstop hDc z1' z2' z3' hrest
        rcases hx with ⟨hk1, hk2⟩ | hk1
        all_goals
          go_wp2_with fail
          refine (skip_any gb line s0 S _ hT.out.b (fits_of (ok0 _) (by omega)) (by decide) (by omega) (by omega)).mono ?_
          rintro e w2 ⟨rfl, hC2, hM2, _⟩
          rw [Int.toNat_natCast] at *
          rw [hKn.out]
          have hA2 := hT.out.a.mod hM2 (by omega)
          have hD2 := hT.out.d.mod hM2 (by omega)
          have hm2 := hT.out.m.trans hM2 (fun i hi => .inl (by omega))
          clear hM2
          go_wp2_with fail
          refine (indent_any gd line s0 _ hD2 (fits_of (ok0 _) (by omega))).mono ?_
          rintro e w3 ⟨rfl, hd3⟩
          replace hA2 := hA2.dr hd3
          replace hC2 := hC2.dr hd3
          replace hD2 := hD2.dr hd3
          replace hm2 := hm2.trans (hd3.mod (S := fun _ => False)) (fun _ h => h.elim)
          clear hd3
          rw [hTn.out]
          go_wp2_with fail
          refine (column_any ga line _ _ hA2).mono ?_
          rintro e w4 ⟨rfl, rfl⟩
          go_wp2_with fail
          refine (column_any gb line _ _ hC2).mono ?_
          rintro e w4 ⟨rfl, rfl⟩
          go_wp2_with fail
          refine (rest_any ga line _ _ hA2 (fits_of Hok.out (by omega)) Hok.out.2.2).mono ?_
          rintro e w4 ⟨rfl, hM4⟩
          replace hA2 := hA2.mod hM4 (fun h => h)
          replace hC2 := hC2.mod hM4 (fun h => h)
          replace hD2 := hD2.mod hM4 (fun h => h)
          replace hm2 := hm2.trans hM4 (fun _ h => h.elim)
          clear hM4
          go_wp2_with fail
          refine (rest_any gb line _ _ hC2 (fits_of Hok.out (by omega)) Hok.out.2.2).mono ?_
          rintro e w5 ⟨rfl, hM4⟩
          replace hA2 := hA2.mod hM4 (fun h => h)
          replace hC2 := hC2.mod hM4 (fun h => h)
          replace hD2 := hD2.mod hM4 (fun h => h)
          replace hm2 := hm2.trans hM4 (fun _ h => h.elim)
          clear hM4
          go_wp2_with fail
          refine (indent_any ga line _ _ hA2 (fits_of Hok.out (by omega))).mono ?_
          rintro e w6 ⟨rfl, hd3⟩
          replace hC2 := hC2.dr hd3
          replace hD2 := hD2.dr hd3
          replace hm2 := hm2.trans (hd3.mod (S := fun _ => False)) (fun _ h => h.elim)
          clear hd3
          go_wp2_with fail
          refine (indent_any gb line _ _ hC2 (fits_of Hok.out (by omega))).mono ?_
          rintro e w7 ⟨rfl, hd3⟩
          replace hD2 := hD2.dr hd3
          replace hm2 := hm2.trans (hd3.mod (S := fun _ => False)) (fun _ h => h.elim)
          clear hd3
          go_wp2_with fail
          refine (skip_any gd line s0 1099511627776 _ hD2 (fits_of (ok0 _) (by omega)) (by decide) (by omega) (by omega)).mono ?_
          rintro e w8 ⟨rfl, hD3, hM2, _⟩
          rw [hDn.out]
          rw [hSD.out] at hD3
          replace hm2 := hm2.trans hM2 (fun i hi => .inl (by omega))
          clear hM2
          go_wp2_with fail
          refine (rest_any gd line _ _ hD3 (fits_of Hdk.out (by omega)) Hdk.out.2.2).mono ?_
          rintro e w9 ⟨rfl, hM4⟩
          replace hD3 := hD3.mod hM4 (fun h => h)
          replace hm2 := hm2.trans hM4 (fun _ h => h.elim)
          clear hM4
          go_wp2_with fail
          refine (behind_any gd line _ _ hD3 (fits_of Hdk.out (by omega))).mono ?_
          rintro e w10 ⟨rfl, hd3⟩
          replace hm2 := hm2.trans (hd3.mod (S := fun _ => False)) (fun _ h => h.elim)
          clear hd3
          rw [hRest.out]
          go_wp2
          go_ret
          exact ⟨rfl, hm2.below_of (Nat.le_refl _) (fun _ h => h)⟩

/-! ### THE ROW's STEP: WRITTEN OUT: LEAVE IT -/
set_option maxRecDepth 100000 in
theorem lifted (os : Os) (started : os.Started) (H : Type) (enc : TypeId × Value → H) :
    ReturnsInHanded {} Try.checked os 3 .any (Rows.cursorStepsSpec.pre6 enc Try.prog Try.f3 Rows.cursorStepsRow.domain false) (Rows.cursorStepsSpec.post enc Try.prog Try.f3 false true false false) := by
  refine returnsInHanded_of_change (C := Try.checked) own started (by kernel_rfl) Try.func3
    (ChangeSpec.witness6 (enc := enc) (C := Try.checked) false ⟨#[], #[.string ByteArray.empty, .slice none 0 0], []⟩ 8 (by kernel_rfl) (by kernel_rfl) (by kernel_rfl) (by kernel_rfl)) ?_
  intro W base args ds gs before hval0 hW hcnd _
  have hval : ∀ (j : Nat) t v, Try.f3.params[j]? = some t → args[j]? = some v → Value.okWide Try.prog W .any base t v := hval0
  have hW' := hW
  obtain ⟨p, q, hA0, hV, rfl, hfz, hnd⟩ := hW
  have hA : DataW.TrodAll enc Try.prog W 0 (fun _ => true) true Try.f3.params.toList args.toList ds p := hA0
  rw [Try.params3] at hA hval
  obtain ⟨v0, vs0, d0, ds0, p0, q0, hargs, rfl, rfl, h0, r0⟩ := trodAll_cons hA
  obtain ⟨v1, vs1, d1, ds1, p1, q1, rfl, rfl, rfl, h1, r1⟩ := trodAll_cons r0
  obtain ⟨rfl, rfl, rfl⟩ := trodAll_nil r1
  obtain rfl : args = #[v0, v1] := by cases args; simp_all
  obtain ⟨rfl, rfl⟩ := trodVars_none hV
  obtain ⟨a0, rfl, rfl, rfl, w0⟩ := open_string Try.underlying9 (hval 0 9 v0 rfl rfl) h0
  obtain ⟨a1, len1, cap1, rfl⟩ := okWide_slice Try.underlying22 (hval 1 22 v1 rfl rfl)
  have k1 := h1
  have lt1 : ∀ x ∈ p1, x.block < W.heap.size := by obtain ⟨m, hm⟩ := k1; exact DataW.trod_lt m _ _ _ hm
  obtain ⟨z1, w1⟩ : ∃ zs, IsRow .i64 W a1 len1 cap1 zs := by
    obtain ⟨fuel, hf⟩ := h1
    rcases open_ints Try.underlying22 Try.underlying3 (by kernel_rfl) hf with ⟨hcs, _⟩ | ⟨x, l, c, zs, hcs, _, hl, hm, hz, _, hcell, hwz⟩
    · simp [Value.cells] at hcs
      obtain ⟨rfl, rfl, rfl⟩ := hcs
      exact ⟨[], .inl ⟨rfl, rfl, rfl, rfl⟩⟩
    · simp [Value.cells] at hcs
      obtain ⟨rfl, rfl, rfl⟩ := hcs
      exact ⟨zs, .inr ⟨_, rfl, hl, hm, by simpa using hz, hcell, hwz⟩⟩
  clear hA0 hval0
  refine (walk a0 a1 len1 cap1 z1 W w0 w1).mono fun e W' ⟨he, bel⟩ => ?_
  subst he
  exact ⟨_, rfl, _, _, _, [], _, [], hW', trodAll_mk1 (shut_bool Try.underlying4 _), (trodAll_cons_mk (shut_string Try.underlying9 w0) (trodAll_cons_mk (Below.trod laidOut (by kernel_rfl) (of_decide_eq_true (by kernel_rfl)) k1 bel lt1) trodAll_mk0)), rfl, bel.frame _, fun h => by cases h⟩

theorem over : Rows.cursorStepsRow.holds Try.pinned (OpenSpec.ofChange Rows.cursorStepsSpec) :=
  OpenClaim.holds_of_wide 3 Try.f3 rfl rfl rfl rfl rfl rfl rfl ⟨rfl, rfl, rfl, rfl, rfl⟩ rfl rfl rfl rfl rfl (by kernel_rfl) Try.func3 (by kernel_rfl)
    (of_decide_eq_true (by kernel_rfl)) (by unfold Func.isWrapper; first | (rw [if_pos (by decide +kernel)]; kernel_rfl) | (rw [if_neg (by decide +kernel)]; exact ⟨rfl, rfl⟩))
    (fun os started H enc _ => lifted os started H enc)

/-- ████ THE STATEMENT ████ -/
theorem proved : Rows.CursorStepsSaid := over
#print axioms proved
end Go.Proofs.Ytbmflpojcgocaaa.cursorSteps
