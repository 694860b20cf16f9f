/-
  CursorPlays: for every line and every two lists of numbers the law returns true. No condition.
-/
import Derived.Test.YtbmflpojcgocaaaRows
import Derived.WalkKit
import Derived.ProofKit
import Derived.OpenShut
import Derived.ShutString
import Derived.ChangeOld
import Derived.Below
import Derived.Test.YtbmflpojcgocaaaCm
import Derived.Deep.RegionHeld3
namespace Go.Proofs.Ytbmflpojcgocaaa.cursorPlays
open Go.ChangeShapes Go.WideShapes Go.ChangeAt Go.RowKit
open Go.ChangeMaps (open_string shut_string)
set_option linter.unusedVariables false

theorem own : ownKnob Try.prog.godebug = none := by kernel_rfl
theorem laidOut : laidOutB Try.prog = true := by kernel_rfl

/-- WHAT THE WALK IS TOLD OF A SLICE OF INTEGERS THAT CAME IN: it is nil; or it leads to a row of 'cap' cells, the numbers 'zs' (the first 'len' are its elements, the rest its spare room), each fitting its kind. -/
def IsRow (k : IntKind) (w : World) (a : Option Addr) (len cap : Nat) (zs : List Int) : Prop :=
  (a = none ∧ len = 0 ∧ cap = 0 ∧ zs = []) ∨
  ∃ x, a = some x ∧ len ≤ cap ∧ cap ≤ maxLen ∧ zs.length = cap ∧ (∀ i, i < zs.length → w.cell? (x.add i) = some (.int k (zs.getD i 0))) ∧ ∀ n ∈ zs, (Lit.int k n).wf = true

open Mem Pl
theorem ok_ends (l : List UInt8) (s : St) (h : Ok l s) : Ok l ⟨endAt l s, endCol l s, 0⟩ := by
  have hb := end_bd l s h.1
  have h2 := h.2.1
  exact ⟨hb.2.1, by show endCol l s + 0 ≤ 4 * endAt l s; omega, Nat.zero_le _⟩
theorem ok_moves (l : List UInt8) (n : Nat) : ∀ s, Ok l s → Ok l (moves l n s) := by
  induction n with
  | zero => intro s h; exact h
  | succ n ih =>
    intro s h
    obtain ⟨a, c, p⟩ := s
    simp only [moves]
    cases hb : l[a]? with
    | none => exact h
    | some b =>
      have ha : a < l.length := (List.getElem?_eq_some_iff.1 hb).1
      have h2 := h.2.1
      simp only at h2
      have hn := nxt_le c b
      exact ih _ ⟨by show a + 1 ≤ _; omega, by show nxt c b + 0 ≤ 4 * (a + 1); omega, Nat.zero_le _⟩

/-- Both cursors at one place. -/
structure Both (w wx : World) (gc gr : Nat) (line : ByteArray) (s : St) : Prop where
  c : Cur wx gc line s
  r : RCur wx gr line s
  m : Mod (fun i => w.heap.size ≤ i) w wx
  ok : Ok line.data.toList s
theorem Both.mod {w w1 w2 : World} {gc gr : Nat} {line : ByteArray} {s : St} (h : Both w w1 gc gr line s) (hm : Mod (fun _ => False) w1 w2) : Both w w2 gc gr line s :=
  ⟨h.c.mod hm (fun h => h), h.r.mod hm (fun h => h), h.m.trans hm (fun _ h => h.elim), h.ok⟩
theorem both_keep {w w1 w2 : World} {gc gr : Nat} {line : ByteArray} {s : St} (h : Both w w1 gc gr line s ∧ w1.cell? ⟨gr, 2, none⟩ = some (.int .i64 s.col)) (hm : Mod (fun _ => False) w1 w2) :
    Both w w2 gc gr line s ∧ w2.cell? ⟨gr, 2, none⟩ = some (.int .i64 s.col) := ⟨h.1.mod hm, (h.1.mod hm).r.cells.2.2⟩
theorem both_c {w wx : World} {gc gr : Nat} {line : ByteArray} {s : St} (h : Both w wx gc gr line s ∧ wx.cell? ⟨gr, 2, none⟩ = some (.int .i64 s.col)) : Cur wx gc line s := h.1.c
theorem both_r {w wx : World} {gc gr : Nat} {line : ByteArray} {s : St} (h : Both w wx gc gr line s ∧ wx.cell? ⟨gr, 2, none⟩ = some (.int .i64 s.col)) : RCur wx gr line s := h.1.r
/-- Some place at which both stand. -/
def Stand (w : World) (gc gr : Nat) (line : ByteArray) (wx : World) : Prop := ∃ s, Both w wx gc gr line s

set_option maxRecDepth 100000 in
set_option maxHeartbeats 3200000 in
theorem walk (a0 : ByteArray) (a1 : Option Addr) (len1 cap1 : Nat) (z1 : List Int) (a2 : Option Addr) (len2 cap2 : Nat) (z2 : List Int) (w : World) (w0 : a0.size ≤ maxLen) (w1 : IsRow .i64 w a1 len1 cap1 z1) (w2 : IsRow .i64 w a2 len2 cap2 z2) :
    Calls Try.prog 4 #[.string a0, .slice a1 len1 cap1, .slice a2 len2 cap2] w fun e w' => e = .returned (.bool true) ∧ Below w.heap.size w w' := by
  unfold maxLen at w0
  have hlen1 : len1 ≤ 9223372036854775807 := by
    rcases w1 with ⟨_, h, _⟩ | ⟨_, _, h1, h2, _⟩
    · omega
    · unfold maxLen at h2; omega
  have hlen2 : len2 ≤ 9223372036854775807 := by
    rcases w2 with ⟨_, h, _⟩ | ⟨_, _, h1, h2, _⟩
    · omega
    · unfold maxLen at h2; omega
  have W1 := Lib.hid w1
  have W2 := Lib.hid w2
  clear w1 w2
  go_enter Try.func4, Try.ntmps4
  go_wp2_with fail
  refine (shown_any _).mono ?_
  rintro e w1 ⟨rfl, hM⟩
  have HM := Lib.hid hM
  clear hM
  go_upto_if 15 with fail
  go_cut [0] (fun v wx => ∃ line : ByteArray, v = .string line ∧ line.size ≤ 3000 ∧ w1 = wx)
  case first =>
    by_cases h : 3000 < a0.size
    · go_wp2
      go_meet
      case rel => exact ⟨_, rfl, by simp [ByteArray.size_extract]; omega, rfl⟩
    · go_wp2
      go_meet
      case rel => exact ⟨_, rfl, by omega, rfl⟩
  case rest =>
    obtain ⟨line, rfl, hl, rfl⟩ := hcut
    go_wp2_with fail
    refine (new_cur line _).mono ?_
    rintro e wa ⟨gc, gc1, rfl, hA, hMa⟩
    have hb0 : Both w (wa.alloc (.cells #[.string line, .int .i64 0, .int .i64 0] 32)) gc wa.heap.size line s0 := by
      refine ⟨hA.mod ((Mod.refl (fun _ => False) wa).alloc _) (fun h => h), ?_, ((HM.out.trans hMa (fun _ h => h.elim)).alloc _).mono (fun _ h => h.elim), ok0 _⟩
      have e : tl line 0 = line := str_inj (by rw [tl_list]; rfl)
      have := Blk.new wa #[.string line, .int .i64 0, .int .i64 0] 32
      unfold RCur
      rw [show tl line s0.at_ = line from e]
      exact this
    have g1 : w.heap.size ≤ gc := by have := HM.out.size; omega
    obtain ⟨gr, hgr⟩ : ∃ gr, wa.heap.size = gr := ⟨_, rfl⟩
    have g2 : gc < gr := by have := hA.lt; omega
    have HB0 := Lib.hid hb0
    clear hA hMa gc1 hb0
    go_wp2
    rw [hgr] at *
    clear hgr
    go_loopg [10, 11] 61 (fun q i n wr => ∃ k : Nat, i = .int .i64 k ∧ 61 - k = q ∧ k ≤ 61 ∧ Hid (Stand w gc gr line wr))
    case atStart => exact ⟨0, rfl, rfl, by omega, Lib.hid ⟨s0, HB0⟩⟩
    case round =>
      obtain ⟨k, rfl, hq, hk, hst⟩ := hrel
      by_cases hin : k ≤ len1 ∧ k ≤ len2 ∧ k ≤ 60
      · obtain ⟨hk1, hk2, hk3⟩ := hin
        go_upto_if 46 with fail
        go_cut [11] (fun n wx => Stand w gc gr line wx)
        case first =>
          cases k with
          | zero =>
            go_wp2
            go_meet
            case rel => exact hst.out
          | succ j =>
            obtain ⟨s, hB⟩ := hst.out
            have hl31 : line.size ≤ 3100 := by omega
            have hok := hB.ok
            have hfit := fits_of hok hl31
            rcases W1.out with ⟨_, h, _⟩ | ⟨x, rfl, p1, p2, p3, p4, p5⟩
            · omega
            rcases W2.out with ⟨_, h, _⟩ | ⟨y, rfl, q1, q2, q3, q4, q5⟩
            · omega
            have hcx := p4 j (by omega)
            have hcy := q4 j (by omega)
            have hcx' : wr.cell? (x.add j) = some (.int .i64 (z1.getD j 0)) := (World.cell?_of_block (w := w) (hB.m.block _ (World.block_lt_of_cell? w _ hcx) (by have := World.block_lt_of_cell? w _ hcx; omega))).trans hcx
            have hcy' : wr.cell? (y.add j) = some (.int .i64 (z2.getD j 0)) := (World.cell?_of_block (w := w) (hB.m.block _ (World.block_lt_of_cell? w _ hcy) (by have := World.block_lt_of_cell? w _ hcy; omega))).trans hcy
            have hbn : -9223372036854775808 ≤ z2.getD j 0 ∧ z2.getD j 0 ≤ 9223372036854775807 := by
              have hm : z2.getD j 0 ∈ z2 := by
                rw [List.getD_eq_getElem?_getD, List.getElem?_eq_getElem (by omega)]
                exact List.getElem_mem _
              exact bounds_i64 (q5 _ hm)
            obtain ⟨K, hK⟩ : ∃ K, z1.getD j 0 = K := ⟨_, rfl⟩
            obtain ⟨N, hN⟩ : ∃ N, z2.getD j 0 = N := ⟨_, rfl⟩
            rw [hK] at hcx'
            rw [hN] at hcy' hbn
            obtain ⟨n1, n2⟩ := hbn
            clear p4 p5 q4 q5 hcx hcy hK hN
            by_cases h1 : K = 1
            · have e1 : (K == 1) = true := beq_iff_eq.2 h1
              clear h1
              go_wp2_with fail
              refine (skip_any gc line s N _ hB.c hfit hok.2.2 n1 n2).mono ?_
              rintro e w2 ⟨rfl, hC2, hM2, _⟩
              have hR2 := hB.r.mod hM2 (by omega)
              have hm2 := hB.m.trans hM2 (fun i hi => .inl (by omega))
              clear hM2
              go_wp2_with fail
              refine (rskip_any gr line s N _ hR2 hok hl31).mono ?_
              rintro e w3 ⟨rfl, hR3, hM3, _⟩
              have hst2 : Stand w gc gr line w3 := ⟨_, hC2.mod hM3 (by omega), hR3, hm2.trans hM3 (fun i hi => .inl (by omega)), ok_iter _ _ _ hok⟩
              have Hst2 := Lib.hid hst2
              clear hst2 hM3 hR3 hm2 hR2 hC2
              go_wp2
              go_meet
              case rel => exact Hst2.out
            · have e1 : (K == 1) = false := beq_eq_false_iff_ne.2 h1
              by_cases h2 : K = 2
              · have e2 : (K == 2) = true := beq_iff_eq.2 h2
                clear h1 h2
                go_wp2_with fail
                refine (move_any gc line s N _ hB.c hfit n1 n2).mono ?_
                rintro e w2 ⟨rfl, hC2, hM2, _⟩
                have hR2 := hB.r.mod hM2 (by omega)
                have hm2 := hB.m.trans hM2 (fun i hi => .inl (by omega))
                clear hM2
                go_wp2_with fail
                refine (rmove_any gr line s N _ hR2 hok hl31 n2).mono ?_
                rintro e w3 ⟨rfl, hR3, hM3⟩
                have hst2 : Stand w gc gr line w3 := ⟨_, hC2.mod hM3 (by omega), hR3, hm2.trans hM3 (fun i hi => .inl (by omega)), ok_moves _ _ _ (ok_ends _ _ hok)⟩
                have Hst2 := Lib.hid hst2
                clear hst2 hM3 hR3 hm2 hR2 hC2
                go_wp2
                go_meet
                case rel => exact Hst2.out
              · have e2 : (K == 2) = false := beq_eq_false_iff_ne.2 h2
                clear h1 h2
                go_wp2
                go_meet
                case rel => exact hst.out
        case rest =>
          obtain ⟨s, hB⟩ := hcut
          have hcell := hB.r.cells.2.2
          have hS0 : Both w wc.drew gc gr line s ∧ wc.drew.cell? ⟨gr, 2, none⟩ = some (.int .i64 s.col) := ⟨hB.mod ((Mod.refl _ wc).drew), hcell⟩
          have hB' := Lib.hid hB
          have hok := hB.ok
          have hl31 : line.size ≤ 3100 := by omega
          have hfit := fits_of hok hl31
          clear hB
          go_wp2
          go_region_held3 (fun w' => Both w w' gc gr line s ∧ w'.cell? ⟨gr, 2, none⟩ = some (.int .i64 s.col)) (first | assumption | exact both_keep (by assumption) hk | go_keep)
            (first
              | (go_at_call 11; refine (column_any gc line s _ (both_c (w := w) (gr := gr) (by assumption))).mono ?_; rintro e w' ⟨rfl, rfl⟩)
              | (go_at_call 10; refine (indent_any gc line s _ (both_c (w := w) (gr := gr) (by assumption)) hfit).mono ?_; rintro e w' ⟨rfl, hd⟩; have hk := hd.mod (S := fun _ => False); clear hd)
              | (go_at_call 17; refine (rindent_any gr line s _ (both_r (w := w) (gc := gc) (by assumption)) hok hl31).mono ?_; rintro e w' ⟨rfl, hk⟩)
              | (go_at_call 18; refine (blankC_any gc line s _ (both_c (w := w) (gr := gr) (by assumption)) hfit).mono ?_; rintro e w' ⟨rfl, hd⟩; have hk := hd.mod (S := fun _ => False); clear hd)
              | (go_at_call 19; refine (rblank_any gr line s _ (both_r (w := w) (gc := gc) (by assumption)) hok hl31).mono ?_; rintro e w' ⟨rfl, rfl⟩)
              | (go_at_call 20; refine (nextC_any gc line s _ (both_c (w := w) (gr := gr) (by assumption)) hfit).mono ?_; rintro e w' ⟨rfl, hd⟩; have hk := hd.mod (S := fun _ => False); clear hd)
              | (go_at_call 21; refine (rnext_any gr line s _ (both_r (w := w) (gc := gc) (by assumption)) hok hl31).mono ?_; rintro e w' ⟨rfl, rfl⟩)
              | (go_at_call 12; refine (rest_any gc line s _ (both_c (w := w) (gr := gr) (by assumption)) hfit hok.2.2).mono ?_; rintro e w' ⟨rfl, hk⟩)
              | (go_at_call 22; refine (rrest_any gr line s _ (both_r (w := w) (gc := gc) (by assumption)) hok hl31).mono ?_; rintro e w' ⟨rfl, rfl⟩)
              | (go_at_call 13; refine (behind_any gc line s _ (both_c (w := w) (gr := gr) (by assumption)) hfit).mono ?_; rintro e w' ⟨rfl, hd⟩; have hk := hd.mod (S := fun _ => False); clear hd)
              | (go_at_call 23; refine (rbehind_any gr line s _ (both_r (w := w) (gc := gc) (by assumption)) hok hl31).mono ?_; rintro e w' ⟨rfl, rfl⟩))
          go_wp2
          go_roundg (61 - (k + 1))
          case measure => omega
          case rel => exact ⟨k + 1, by go_num, rfl, by omega, Lib.hid ⟨s, And.left (by assumption)⟩⟩
      · have hfin : Below w.heap.size w wr := by
          obtain ⟨s, hs⟩ := hst.out
          exact hs.m.below_of (Nat.le_refl _) (fun _ h => h)
        have Hfin := Lib.hid hfin
        clear hfin
        have hx : ¬ k ≤ len1 ∨ (k ≤ len1 ∧ ¬ k ≤ len2) ∨ (k ≤ len1 ∧ k ≤ len2 ∧ ¬ k ≤ 60) := by omega
        rcases hx with h1 | ⟨h1, h2⟩ | ⟨h1, h2, h3⟩
        all_goals
          go_wp2
          go_ret
          exact ⟨rfl, Hfin.out⟩

/-! ### THE ROW's STEP: WRITTEN OUT: LEAVE IT -/
set_option maxRecDepth 100000 in
theorem lifted (os : Os) (started : os.Started) (H : Type) (enc : TypeId × Value → H) :
    ReturnsInHanded {} Try.checked os 4 .any (Rows.cursorPlaysSpec.pre6 enc Try.prog Try.f4 Rows.cursorPlaysRow.domain false) (Rows.cursorPlaysSpec.post enc Try.prog Try.f4 false true false false) := by
  refine returnsInHanded_of_change (C := Try.checked) own started (by kernel_rfl) Try.func4
    (ChangeSpec.witness6 (enc := enc) (C := Try.checked) false ⟨#[], #[.string ByteArray.empty, .slice none 0 0, .slice none 0 0], []⟩ 8 (by kernel_rfl) (by kernel_rfl) (by kernel_rfl) (by kernel_rfl)) ?_
  intro W base args ds gs before hval0 hW hcnd _
  have hval : ∀ (j : Nat) t v, Try.f4.params[j]? = some t → args[j]? = some v → Value.okWide Try.prog W .any base t v := hval0
  have hW' := hW
  obtain ⟨p, q, hA0, hV, rfl, hfz, hnd⟩ := hW
  have hA : DataW.TrodAll enc Try.prog W 0 (fun _ => true) true Try.f4.params.toList args.toList ds p := hA0
  rw [Try.params4] at hA hval
  obtain ⟨v0, vs0, d0, ds0, p0, q0, hargs, rfl, rfl, h0, r0⟩ := trodAll_cons hA
  obtain ⟨v1, vs1, d1, ds1, p1, q1, rfl, rfl, rfl, h1, r1⟩ := trodAll_cons r0
  obtain ⟨v2, vs2, d2, ds2, p2, q2, rfl, rfl, rfl, h2, r2⟩ := trodAll_cons r1
  obtain ⟨rfl, rfl, rfl⟩ := trodAll_nil r2
  obtain rfl : args = #[v0, v1, v2] := by cases args; simp_all
  obtain ⟨rfl, rfl⟩ := trodVars_none hV
  obtain ⟨a0, rfl, rfl, rfl, w0⟩ := open_string Try.underlying9 (hval 0 9 v0 rfl rfl) h0
  obtain ⟨a1, len1, cap1, rfl⟩ := okWide_slice Try.underlying22 (hval 1 22 v1 rfl rfl)
  have k1 := h1
  have lt1 : ∀ x ∈ p1, x.block < W.heap.size := by obtain ⟨m, hm⟩ := k1; exact DataW.trod_lt m _ _ _ hm
  obtain ⟨z1, w1⟩ : ∃ zs, IsRow .i64 W a1 len1 cap1 zs := by
    obtain ⟨fuel, hf⟩ := h1
    rcases open_ints Try.underlying22 Try.underlying3 (by kernel_rfl) hf with ⟨hcs, _⟩ | ⟨x, l, c, zs, hcs, _, hl, hm, hz, _, hcell, hwz⟩
    · simp [Value.cells] at hcs
      obtain ⟨rfl, rfl, rfl⟩ := hcs
      exact ⟨[], .inl ⟨rfl, rfl, rfl, rfl⟩⟩
    · simp [Value.cells] at hcs
      obtain ⟨rfl, rfl, rfl⟩ := hcs
      exact ⟨zs, .inr ⟨_, rfl, hl, hm, by simpa using hz, hcell, hwz⟩⟩
  obtain ⟨a2, len2, cap2, rfl⟩ := okWide_slice Try.underlying22 (hval 2 22 v2 rfl rfl)
  have k2 := h2
  have lt2 : ∀ x ∈ p2, x.block < W.heap.size := by obtain ⟨m, hm⟩ := k2; exact DataW.trod_lt m _ _ _ hm
  obtain ⟨z2, w2⟩ : ∃ zs, IsRow .i64 W a2 len2 cap2 zs := by
    obtain ⟨fuel, hf⟩ := h2
    rcases open_ints Try.underlying22 Try.underlying3 (by kernel_rfl) hf with ⟨hcs, _⟩ | ⟨x, l, c, zs, hcs, _, hl, hm, hz, _, hcell, hwz⟩
    · simp [Value.cells] at hcs
      obtain ⟨rfl, rfl, rfl⟩ := hcs
      exact ⟨[], .inl ⟨rfl, rfl, rfl, rfl⟩⟩
    · simp [Value.cells] at hcs
      obtain ⟨rfl, rfl, rfl⟩ := hcs
      exact ⟨zs, .inr ⟨_, rfl, hl, hm, by simpa using hz, hcell, hwz⟩⟩
  clear hA0 hval0
  refine (walk a0 a1 len1 cap1 z1 a2 len2 cap2 z2 W w0 w1 w2).mono fun e W' ⟨he, bel⟩ => ?_
  subst he
  exact ⟨_, rfl, _, _, _, [], _, [], hW', trodAll_mk1 (shut_bool Try.underlying4 _), (trodAll_cons_mk (shut_string Try.underlying9 w0) (trodAll_cons_mk (Below.trod laidOut (by kernel_rfl) (of_decide_eq_true (by kernel_rfl)) k1 bel lt1) (trodAll_cons_mk (Below.trod laidOut (by kernel_rfl) (of_decide_eq_true (by kernel_rfl)) k2 bel lt2) trodAll_mk0))), rfl, bel.frame _, fun h => by cases h⟩

theorem over : Rows.cursorPlaysRow.holds Try.pinned (OpenSpec.ofChange Rows.cursorPlaysSpec) :=
  OpenClaim.holds_of_wide 4 Try.f4 rfl rfl rfl rfl rfl rfl rfl ⟨rfl, rfl, rfl, rfl, rfl⟩ rfl rfl rfl rfl rfl (by kernel_rfl) Try.func4 (by kernel_rfl)
    (of_decide_eq_true (by kernel_rfl)) (by unfold Func.isWrapper; first | (rw [if_pos (by decide +kernel)]; kernel_rfl) | (rw [if_neg (by decide +kernel)]; exact ⟨rfl, rfl⟩))
    (fun os started H enc _ => lifted os started H enc)

/-- ████ THE STATEMENT ████ -/
theorem proved : Rows.CursorPlaysSaid := over
#print axioms proved
end Go.Proofs.Ytbmflpojcgocaaa.cursorPlays
