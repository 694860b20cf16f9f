/-
  CursorMoves: for every line and every number the law returns true. No condition.
-/
import Derived.Test.YtbmflpojcgocaaaRows
import Derived.WalkKit
import Derived.ProofKit
import Derived.OpenShut
import Derived.ShutString
import Derived.Test.YtbmflpojcgocaaaCs
import Derived.Test.YtbmflpojcgocaaaPb
import Derived.Deep.AppendLies
import Derived.Laws.BytesArg
import Derived.Deep.CutBlock
import Derived.Deep.RegionWith
import Derived.Below
import Derived.ChangeOld
namespace Go.Proofs.Ytbmflpojcgocaaa.cursorMoves
open Go.ChangeShapes Go.WideShapes Go.ChangeAt Go.RowKit
open Go.ChangeMaps (open_string shut_string)
set_option linter.unusedVariables false      -- a walk need not use every 'w<i>' (that an integer argument fits its kind)

theorem own : ownKnob Try.prog.godebug = none := by kernel_rfl

open Mem Pl
/-- Bytes as a row's cells. -/
def bts (l : List UInt8) : List Value := l.map fun b => .int .u8 (b.toNat : Int)
theorem bts_snoc (l : List UInt8) (b : UInt8) : bts (l ++ [b]) = bts l ++ [.int .u8 (b.toNat : Int)] := by simp [bts]
theorem own_text {w : World} {base n : Nat} {v : Value} {l : List UInt8} (h : w.ownsRow base 5 1 v n (bts l)) : (convert 37 9 v).run Try.prog w = .ok (.string (str l)) w := by
  have hl : l.length = n := by have := h.1; simpa [bts] using this
  rcases h.2 with ⟨rfl, rfl⟩ | ⟨g, cap, cur, rfl, _⟩
  · obtain rfl : l = [] := List.eq_nil_of_length_eq_zero hl
    exact run_convert_bytes_nil w 37 5 Try.underlying37 Try.underlying5 0 0 9 Try.underlying9
  · have e : str l = strOfNums (l.map fun b => (b.toNat : Int)) := by
      apply str_inj
      rw [str_list, strOfNums_data, List.map_map]
      exact (List.map_id'' (fun b => by simp) l).symm
    rw [e]
    refine run_convert_bytes_arg w 37 5 Try.underlying37 Try.underlying5 g 0 n cap _ (by simp [hl]) (fun i hi => ?_) 9 Try.underlying9
    have hc := h.cells (g := g) rfl i (.int .u8 ((l[i]'(by omega)).toNat : Int)) (by simp [bts, List.getElem?_eq_getElem (show i < l.length by omega)])
    have ha : (⟨g, 0, none⟩ : Addr).add i = ⟨g, 0 + i, none⟩ := by unfold Addr.add; split <;> simp_all
    rw [ha] at hc
    rw [hc]
    simp [List.getD_eq_getElem?_getD, List.getElem?_eq_getElem (show i < l.length by omega)]
/-- What the gathering loop leaves: a row of bytes none of which is a blank or a tab. -/
def Gathered (a0 : ByteArray) (w : World) (v : Value) (wx : World) : Prop :=
  ∃ L : List UInt8, (∀ b ∈ L, isBl b = false) ∧ L.length ≤ 1000 ∧ wx.ownsRow w.heap.size 5 1 v L.length (bts L) ∧ Mod (fun i => w.heap.size ≤ i) w wx
theorem info5 : (Try.prog.info? 5).map (fun i => (i.zero, i.size, i.bytes)) = some (some (.int .u8 0), 1, 1) := by kernel_rfl

set_option maxRecDepth 100000 in
set_option maxHeartbeats 1600000 in
theorem walk (a0 : ByteArray) (a1 : Int) (w0 : a0.size ≤ maxLen) (w1 : (Lit.int .i64 a1).wf = true) (w : World) :
    Calls Try.prog 6 #[.string a0, .int .i64 a1] w fun e w' => e = .returned (.bool true) ∧ Below w.heap.size w w' := by
  unfold maxLen at w0
  obtain ⟨i5, hi5, hz0, hz1, hz2⟩ := info_parts info5
  have hr := bounds_i64 w1
  clear w1
  go_enter Try.func6, Try.ntmps6
  go_wp2_with fail
  refine (shown_any _).mono ?_
  rintro e w1 ⟨rfl, hM⟩
  have HM := Lib.hid (hM.mono (T := fun i => w.heap.size ≤ i) (fun _ h => h.elim))
  clear hM
  go_upto_block 0 with fail
  go_cut [6, 7] (fun v i wx => Gathered a0 w v wx)
  case first =>
    go_wp2_with fail
    go_loopw [6, 7] (fun v i wr => ∃ k : Nat, i = .int .i64 k ∧ k ≤ a0.size ∧ k ≤ 1000 ∧ Hid (wr.ownsRow w.heap.size 5 1 v (dense (a0.data.toList.take k)).length (bts (dense (a0.data.toList.take k)))) ∧ Hid (Mod (fun i => w.heap.size ≤ i) w wr)) (fun _ i _ => 1000 - (intOf i).toNat)
    case atStart => exact ⟨0, rfl, Nat.zero_le _, Nat.zero_le _, World.ownsRow_nil _ _ _ _, HM⟩
    case round =>
      obtain ⟨k, rfl, hk, hk2, hown, hm⟩ := hrel
      by_cases hlt : k < a0.size ∧ k < 1000
      · obtain ⟨h1, h2⟩ := hlt
        obtain ⟨b, hb, hbb⟩ := bt_get a0 k h1
        have hbt := bt_at a0 k
        have Hb := Lib.hid hbb
        clear hbb
        have hts : a0.data.toList.take (k + 1) = a0.data.toList.take k ++ [b] := by
          rw [List.take_add_one, hb]; rfl
        have hds := dense_snoc (a0.data.toList.take k) b
        rw [← hts] at hds
        have hdl := dense_le (a0.data.toList.take k)
        have hdl2 : (a0.data.toList.take k).length ≤ k := List.length_take_le _ _
        cases hbl : isBl b with
        | true =>
          rw [hbl] at hds
          have Hds := Lib.hid hds
          have hb2 := (bl_iff b).1 hbl
          clear hb hts hds hbl
          by_cases h32 : (b.toNat : Int) = 32
          · have e32 : (bt a0 k != 32) = false := by rw [bne_eq_false_iff_eq, Hb.out]; exact h32
            clear h32 hb2
            go_wp2
            go_roundw
            case rel => exact ⟨k + 1, by go_num, by omega, by omega, Lib.hid (by rw [Hds.out]; simpa using hown.out), hm⟩
            case measure => simp [intOf]; omega
          · have e32 : (bt a0 k != 32) = true := by rw [bne_iff_ne, Hb.out]; exact h32
            have e9 : (bt a0 k != 9) = false := by rw [bne_eq_false_iff_eq, Hb.out]; omega
            clear h32 hb2
            go_wp2
            go_roundw
            case rel => exact ⟨k + 1, by go_num, by omega, by omega, Lib.hid (by rw [Hds.out]; simpa using hown.out), hm⟩
            case measure => simp [intOf]; omega
        | false =>
          rw [hbl, if_neg (by decide)] at hds
          have Hds := Lib.hid hds
          have hb2 : ¬ ((b.toNat : Int) = 32 ∨ (b.toNat : Int) = 9) := by rw [← bl_iff, hbl]; simp
          have e32 : (bt a0 k != 32) = true := by rw [bne_iff_ne, Hb.out]; omega
          have e9 : (bt a0 k != 9) = true := by rw [bne_iff_ne, Hb.out]; omega
          clear hb hts hds hbl hb2
          go_wp2_with (at_builtin; refine wpList_append_lies _ rfl _ _ 37 rfl w.heap.size 5 i5 (.int .u8 0) 1 1 Try.underlying37 hi5 hz0 hz1 hz2 rfl (by omega) _ _ _ rfl (hown.out.alloc _) ⟨wr.heap.size, 0, none⟩ 1 1 [.int .u8 (bt a0 k)] rfl rfl ?c1 ?c2 (by omega) ?c3 ?c4 ?c5 (wr.heap.size + 1) (by simp) ?_)
          case c1 => exact cell_one_new _ _ _
          case c2 => intro u hu; simp at hu; subst hu; rfl
          case c3 => unfold maxLen; omega
          case c4 => omega
          case c5 => have := hm.out.size; simp; omega
          intro g cap w2 hown2 hgr hat hlt2
          have hm2 : Mod (fun i => w.heap.size ≤ i) w w2 := (hm.out.alloc _).grown hgr (fun k hk => .inl (hown.out.lt k hk).1)
          have hown3 : Hid (w2.ownsRow w.heap.size 5 1 (.slice (some ⟨g, 0, none⟩) ((dense (a0.data.toList.take k)).length + 1) cap) (dense (a0.data.toList.take (k + 1))).length (bts (dense (a0.data.toList.take (k + 1))))) := by
            rw [Hb.out] at hown2
            rw [Hds.out, bts_snoc]
            exact Lib.hid (by simpa using hown2)
          have Hm2 := Lib.hid hm2
          clear hown2 hgr hat hlt2 hm2
          go_wp2
          go_roundw
          case rel => exact ⟨k + 1, by go_num, by omega, by omega, hown3, Hm2⟩
          case measure => simp [intOf]; omega
      · have hx : (k < a0.size ∧ ¬ k < 1000) ∨ ¬ k < a0.size := by omega
        have hg : Gathered a0 w u6 wr := ⟨dense (a0.data.toList.take k), fun b hb => by simpa using (List.mem_filter.1 hb).2, Nat.le_trans (dense_le _) (Nat.le_trans (List.length_take_le _ _) hk2), hown.out, hm.out⟩
        have Hg := Lib.hid hg
        clear hg
        rcases hx with ⟨hk1, hk2⟩ | hk1
        all_goals
          go_wp2
          go_meet
          case rel => exact Hg.out
  case rest =>
    clear HM
    obtain ⟨L, hdn, hLl, hown, hm0⟩ := hcut
    have hconv := own_text hown
    obtain ⟨line, hline⟩ : ∃ line, str L = line := ⟨_, rfl⟩
    have hls : line.data.toList = L := by rw [← hline, str_list]
    have hsz : line.size = L.length := by rw [← size_list, hls]
    rw [hline] at hconv
    have hm := Lib.hid hm0
    have HLine := Lib.hid hls
    have hls2 : line.size ≤ 1000 := by omega
    have Hdn := Lib.hid hdn
    clear hdn hline hls hsz hown hm0
    go_upto_if 42 with fail
    go_cut [1] (fun v wx => ∃ n0 : Int, v = .int .i64 n0 ∧ 0 ≤ n0 ∧ n0 ≤ 9223372036854775807 ∧ wx = wc)
    case first =>
      by_cases hneg : a1 < 0
      · go_wp2
        go_meet
        case rel => exact ⟨_, rfl, by omega, by omega, rfl⟩
      · go_wp2
        go_meet
        case rel => exact ⟨_, rfl, by omega, by omega, rfl⟩
    case rest =>
      obtain ⟨n0, rfl, hn1, hn2, rfl⟩ := hcut
      obtain ⟨M, hM⟩ := Int.eq_ofNat_of_zero_le (Int.emod_nonneg n0 (show (line.size : Int) + 3 ≠ 0 by omega))
      have hMb : M < line.size + 3 := by have := Int.emod_lt_of_pos n0 (show (0 : Int) < (line.size : Int) + 3 by omega); omega
      go_wp2_with fail
      refine (new_cur line _).mono ?_
      rintro e wa ⟨ga, ga1, rfl, hA, hMa⟩
      go_wp2_with fail
      refine (new_cur line _).mono ?_
      rintro e wb ⟨gb, gb1, rfl, hB, hMb⟩
      have hA2 := hA.mod hMb (fun h => h)
      have hm2 := (hm.out.trans hMa (fun _ h => h.elim)).trans hMb (fun _ h => h.elim)
      have g1 : w.heap.size ≤ ga := by have := hm.out.size; omega
      have g2 : ga < gb := by have := hA.lt; omega
      have HA := Lib.hid hA2
      have HB := Lib.hid hB
      have Hm2 := Lib.hid hm2
      clear hA hMa hB hMb hA2 hm2 ga1 gb1 hconv hm
      go_wp2_with fail
      go_loopw [11] (fun i wr => ∃ j : Nat, i = .int .i64 j ∧ j ≤ M ∧ Hid (Cur wr ga line (moves line.data.toList j s0)) ∧ Hid (Cur wr gb line s0) ∧ Hid (Mod (fun i => w.heap.size ≤ i) w wr)) (fun i _ => M - (intOf i).toNat)
      case atStart => exact ⟨0, rfl, Nat.zero_le _, HA, HB, Hm2⟩
      case round =>
        obtain ⟨j, rfl, hj, hA, hB, hm⟩ := hrel
        have hmv : ∀ n, moves line.data.toList n s0 = ⟨min n line.size, min n line.size, 0⟩ := fun n => by
          have := dense_moves line.data.toList (by rw [HLine.out]; exact Hdn.out) n 0 0 (Nat.zero_le _)
          rw [size_list] at this
          show moves _ n ⟨0, 0, 0⟩ = _
          rw [this]
          simp only [St.mk.injEq, and_true]
          omega
        by_cases hlt : j < M
        · have hf : Fits line (moves line.data.toList j s0) := by rw [hmv]; exact ⟨by show min j line.size ≤ _; omega, by omega, by show min j line.size + 0 ≤ 4 * min j line.size; omega⟩
          have hde := dense_end line.data.toList (by rw [HLine.out]; exact Hdn.out) (min j line.size) (min j line.size)
          have hnext : moves line.data.toList (1 : Int).toNat ⟨endAt line.data.toList (moves line.data.toList j s0), endCol line.data.toList (moves line.data.toList j s0), 0⟩ = moves line.data.toList (j + 1) s0 := by
            rw [hmv j, hde.1, hde.2, hmv (j + 1)]
            have := dense_moves line.data.toList (by rw [HLine.out]; exact Hdn.out) 1 (min j line.size) (min j line.size) (by rw [size_list]; omega)
            rw [size_list] at this
            show moves _ 1 _ = _
            rw [this]
            simp only [St.mk.injEq, and_true]
            omega
          have Hnext := Lib.hid hnext
          clear hnext hde hmv
          go_wp2_with fail
          refine (move_any ga line _ 1 _ hA.out hf (by omega) (by omega)).mono ?_
          rintro e w3 ⟨rfl, hA3, hM3, _⟩
          rw [Hnext.out] at hA3
          have hB3 := Lib.hid (hB.out.mod hM3 (by omega))
          have hm3 := Lib.hid (hm.out.trans hM3 (fun i hi => .inl (by omega)))
          have HA3 := Lib.hid hA3
          clear hA3 hM3
          go_wp2
          go_roundw
          case rel => exact ⟨j + 1, by go_num, by omega, HA3, hB3, hm3⟩
          case measure => simp [intOf]; omega
        · obtain rfl : M = j := by omega
          have hde := dense_end line.data.toList (by rw [HLine.out]; exact Hdn.out) 0 0
          have hb : moves line.data.toList ((M : Int)).toNat ⟨endAt line.data.toList s0, endCol line.data.toList s0, 0⟩ = ⟨min M line.size, min M line.size, 0⟩ := by
            show moves _ _ ⟨endAt line.data.toList ⟨0, 0, 0⟩, endCol line.data.toList ⟨0, 0, 0⟩, 0⟩ = _
            rw [hde.1, hde.2]
            exact hmv M
          have HAM := hA.out
          rw [hmv M] at HAM
          have Hb' := Lib.hid hb
          have HAm := Lib.hid HAM
          clear hde hb hmv HAM hA
          go_wp2_with fail
          refine (move_any gb line s0 _ _ hB.out (fits_of (ok0 _) (by omega)) (by omega) (by omega)).mono ?_
          rintro e w3 ⟨rfl, hB3, hM3, _⟩
          rw [Hb'.out] at hB3
          have hA3 := HAm.out.mod hM3 (by omega)
          have hm3 := hm.out.trans hM3 (fun i hi => .inl (by omega))
          clear hM3
          have HA3 := Lib.hid hA3
          have HB3 := Lib.hid hB3
          have Hm3 := Lib.hid hm3
          clear hA3 hB3 hm3
          obtain ⟨m, hm'⟩ : ∃ m, min M line.size = m := ⟨_, rfl⟩
          have hmin : min (M : Int) (line.size : Int) = (m : Int) := by omega
          have m1 : m ≤ line.size := by omega
          rw [hm'] at HA3 HB3
          have HMm := Lib.hid hm'
          clear hm'
          have eC : ((m : Int) == min (M : Int) (line.size : Int)) = true := by rw [beq_iff_eq]; omega
          have m0 : (0 : Int) ≤ (m : Int) := by omega
          have m2 : (m : Int) ≤ (line.size : Int) := by omega
          clear eC
          go_wp2
          go_quiet (first | (go_at_call_of 11 (Value.pointer (some ⟨ga, 0, none⟩)); exact quiet_eq (column_any ga line _ _ (HA3.out.drewN _))) | (go_at_call_of 11 (Value.pointer (some ⟨gb, 0, none⟩)); exact quiet_eq (column_any gb line _ _ (HB3.out.drewN _))) | (go_at_call_of 12 (Value.pointer (some ⟨ga, 0, none⟩)); exact quiet_dr (rest_zero ga line _ _ _ (HA3.out.drewN _) (by omega) (by omega))) | (go_at_call_of 12 (Value.pointer (some ⟨gb, 0, none⟩)); exact quiet_dr (rest_zero gb line _ _ _ (HB3.out.drewN _) (by omega) (by omega))))
          go_wp2
          go_ret
          exact ⟨rfl, (Hm3.out.drewN _).below_of (Nat.le_refl _) (fun _ h => h)⟩

/-! ### THE ROW's STEP: WRITTEN OUT: LEAVE IT -/
set_option maxRecDepth 100000 in
theorem lifted (os : Os) (started : os.Started) (H : Type) (enc : TypeId × Value → H) :
    ReturnsInHanded {} Try.checked os 6 .any (Rows.cursorMovesSpec.pre6 enc Try.prog Try.f6 Rows.cursorMovesRow.domain false) (Rows.cursorMovesSpec.post enc Try.prog Try.f6 false true false false) := by
  refine returnsInHanded_of_change (C := Try.checked) own started (by kernel_rfl) Try.func6
    (ChangeSpec.witness6 (enc := enc) (C := Try.checked) false ⟨#[], #[.string ByteArray.empty, .int .i64 0], []⟩ 8 (by kernel_rfl) (by kernel_rfl) (by kernel_rfl) (by kernel_rfl)) ?_
  intro W base args ds gs before hval0 hW hcnd _
  have hval : ∀ (j : Nat) t v, Try.f6.params[j]? = some t → args[j]? = some v → Value.okWide Try.prog W .any base t v := hval0
  have hW' := hW
  obtain ⟨p, q, hA0, hV, rfl, hfz, hnd⟩ := hW
  have hA : DataW.TrodAll enc Try.prog W 0 (fun _ => true) true Try.f6.params.toList args.toList ds p := hA0
  rw [Try.params6] at hA hval
  obtain ⟨v0, vs0, d0, ds0, p0, q0, hargs, rfl, rfl, h0, r0⟩ := trodAll_cons hA
  obtain ⟨v1, vs1, d1, ds1, p1, q1, rfl, rfl, rfl, h1, r1⟩ := trodAll_cons r0
  obtain ⟨rfl, rfl, rfl⟩ := trodAll_nil r1
  obtain rfl : args = #[v0, v1] := by cases args; simp_all
  obtain ⟨rfl, rfl⟩ := trodVars_none hV
  obtain ⟨a0, rfl, rfl, rfl, w0⟩ := open_string Try.underlying9 (hval 0 9 v0 rfl rfl) h0
  obtain ⟨a1, rfl, rfl, rfl, w1⟩ := open_int Try.underlying3 (hval 1 3 v1 rfl rfl) h1
  clear hA0 hval0
  refine (walk a0 a1 w0 w1 W).mono fun e W' ⟨he, bel⟩ => ?_
  subst he
  exact ⟨_, rfl, _, _, _, [], _, [], hW', trodAll_mk1 (shut_bool Try.underlying4 _), (trodAll_cons_mk (shut_string Try.underlying9 w0) (trodAll_cons_mk (shut_int Try.underlying3 w1) trodAll_mk0)), rfl, bel.frame _, fun h => by cases h⟩

theorem over : Rows.cursorMovesRow.holds Try.pinned (OpenSpec.ofChange Rows.cursorMovesSpec) :=
  OpenClaim.holds_of_wide 6 Try.f6 rfl rfl rfl rfl rfl rfl rfl ⟨rfl, rfl, rfl, rfl, rfl⟩ rfl rfl rfl rfl rfl (by kernel_rfl) Try.func6 (by kernel_rfl)
    (of_decide_eq_true (by kernel_rfl)) (by unfold Func.isWrapper; first | (rw [if_pos (by decide +kernel)]; kernel_rfl) | (rw [if_neg (by decide +kernel)]; exact ⟨rfl, rfl⟩))
    (fun os started H enc _ => lifted os started H enc)

/-- ████ THE STATEMENT ████ -/
theorem proved : Rows.CursorMovesSaid :=
  over
#print axioms proved
end Go.Proofs.Ytbmflpojcgocaaa.cursorMoves
