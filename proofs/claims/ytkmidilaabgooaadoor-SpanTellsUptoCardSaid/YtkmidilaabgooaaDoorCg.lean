/-
  Raw.
-/
import Derived.Test.YtkmidilaabgooaaDoorCf
namespace Go.Proofs.YtkmidilaabgooaaDoor
open Go.RowKit Mem
set_option linter.unusedVariables false
set_option linter.unusedSimpArgs false

theorem upto_idx (e : Bs) : ∀ l : Bs, (Lib.index l e = -1 ∧ uptoF e l = none) ∨ ∃ n : Nat, Lib.index l e = n ∧ n + e.length ≤ l.length ∧ uptoF e l = some (l.drop (n + e.length))
  | [] => by
    unfold Lib.index uptoF
    cases e with
    | nil => exact .inr ⟨0, rfl, Nat.le_refl _, rfl⟩
    | cons x e => exact .inl ⟨rfl, rfl⟩
  | b :: l => by
    have ih := upto_idx e l
    unfold Lib.index uptoF
    cases hp : e.isPrefixOf (b :: l) with
    | true =>
      rw [if_pos rfl, if_pos rfl]
      have := (List.isPrefixOf_iff_prefix.1 hp).length_le
      exact .inr ⟨0, rfl, by omega, by rw [Nat.zero_add]⟩
    | false =>
      rw [if_neg Bool.false_ne_true, if_neg Bool.false_ne_true]
      rcases ih with ⟨h1, h2⟩ | ⟨n, h1, h2, h3⟩
      · rw [h1, h2]; exact .inl ⟨rfl, rfl⟩
      · have : ¬ (Lib.index l e == -1) = true := by rw [h1]; simp
        rw [if_neg this, h1, h3]
        exact .inr ⟨n + 1, rfl, by rw [List.length_cons]; omega, by rw [show n + 1 + e.length = (n + e.length) + 1 by omega]; rfl⟩
theorem idx_e (l e : Bs) (m : Int) (w : World) (hs : l.length ≤ 4294967280) (hm : w.cell? ⟨0, 0, none⟩ = some (.int .i64 m)) :
    Calls Tryd.prog 45 #[.string (sv l), .string (sv e)] w fun e' w' => e' = .returned (.int .i64 (Lib.index l e)) ∧ w = w' := by
  have h := Tryd.strings_Index (sv l) (sv e) m w (by rw [sv_size]; omega) hm
  rw [sv_list, sv_list] at h
  exact h.mono fun _ _ ⟨h1, h2⟩ => ⟨h1, h2.symm⟩
theorem cp_b {t l m : Bs} {b : Bool} (hb : t.isPrefixOf l = b) (hm : (if t.isPrefixOf l then l.drop t.length else l) = m) (w : World) :
    Calls Tryd.prog 26 #[.string (sv l), .string (sv t)] w fun e w' => e = .returned (.tuple #[.string (sv m), .bool b]) ∧ w = w' := by
  subst hb hm; exact cutPrefix_any t l w
theorem tag_n {l : Bs} {n : Nat} (h : tagN l = n) (hl : l.length ≤ 4294967280) (w : World) :
    Calls Tryd.prog 14 #[.string (sv l)] w fun e w' => e = .returned (.int .i64 n) ∧ Mod (fun _ => False) w w' := by
  subst h; exact tag_any l w hl
theorem tagN_zero {l : Bs} (h : tagN l = 0) : tagF l = none := by
  cases ht : tagF l with
  | none => rfl
  | some r =>
    obtain ⟨p, hp, _⟩ := tag_front ht
    unfold tagN at h
    rw [ht] at h
    have : l.length - r.length = 0 := h
    have h2 := congrArg List.length hp
    simp at h2
    omega
/-- What Raw tells. -/
def rawN (l : Bs) : Nat := took l (rawF l)
theorem rawN_tag {l : Bs} (h : tagN l ≠ 0) : rawN l = tagN l := by
  unfold rawN rawF
  cases ht : tagF l with
  | none => unfold tagN at h; rw [ht] at h; exact absurd rfl h
  | some r => unfold tagN; rw [ht]
def R5 (l : Bs) : Option Bs := if ([60, 33] : Bs).isPrefixOf l && ltr1 (l.drop 2) then uptoF [62] (l.drop 2) else none
def R4 (l : Bs) : Option Bs := if ([60, 33, 91, 67, 68, 65, 84, 65, 91] : Bs).isPrefixOf l then uptoF [93, 93, 62] (l.drop 9) else R5 l
def R3 (l : Bs) : Option Bs := if ([60, 63] : Bs).isPrefixOf l then uptoF [63, 62] (l.drop 2) else R4 l
def R2 (l : Bs) : Option Bs := if ([60, 33, 45, 45] : Bs).isPrefixOf l then uptoF [45, 45, 62] (l.drop 4) else R3 l
def R1 (l : Bs) : Option Bs := if ([60, 33, 45, 45, 45, 62] : Bs).isPrefixOf l then uptoF [] (l.drop 6) else R2 l
def R0 (l : Bs) : Option Bs := if ([60, 33, 45, 45, 62] : Bs).isPrefixOf l then uptoF [] (l.drop 5) else R1 l
def rawFrom (l : Bs) (k : Nat) : Option Bs := match k with
  | 0 => R0 l
  | 1 => R1 l
  | 2 => R2 l
  | 3 => R3 l
  | 4 => R4 l
  | 5 => R5 l
  | _ => none
theorem upto_nil (l : Bs) : uptoF [] l = some l := by
  cases l <;> rfl
theorem raw_from (l : Bs) : rawK l = rawFrom l 0 := by
  unfold rawK
  show _ = R0 l
  unfold R0 R1 R2 R3 R4 R5
  rw [upto_nil, upto_nil]
theorem mod_cell {w w' : World} {a : Addr} {v : Value} (h : Mod (fun _ => False) w w') (hc : w.cell? a = some v) : w'.cell? a = some v :=
  (World.cell?_of_block (w := w) (h.block _ (World.block_lt_of_cell? w _ hc) (fun h => h))).trans hc
theorem ltr1_nil : ltr1 [] = false := rfl
theorem ltr1_cons (c : UInt8) (l : Bs) : ltr1 (c :: l) = isB true false [] c := rfl
theorem ix56_0 (a0 a1 a2 a3 a4 a5 a6 a7 a8 a9 a10 a11 : Value) (w : World) : (Instr.index 56 (.agg #[a0, a1, a2, a3, a4, a5, a6, a7, a8, a9, a10, a11]) (.int .i64 0)).run Tryd.prog w = .ok (.agg #[a0, a1]) w := by
  simp [Instr.index, run_underlying Tryd.underlying56, asIntOf, go_sem]
theorem ix56_1 (a0 a1 a2 a3 a4 a5 a6 a7 a8 a9 a10 a11 : Value) (w : World) : (Instr.index 56 (.agg #[a0, a1, a2, a3, a4, a5, a6, a7, a8, a9, a10, a11]) (.int .i64 1)).run Tryd.prog w = .ok (.agg #[a2, a3]) w := by
  simp [Instr.index, run_underlying Tryd.underlying56, asIntOf, go_sem]
theorem ix56_2 (a0 a1 a2 a3 a4 a5 a6 a7 a8 a9 a10 a11 : Value) (w : World) : (Instr.index 56 (.agg #[a0, a1, a2, a3, a4, a5, a6, a7, a8, a9, a10, a11]) (.int .i64 2)).run Tryd.prog w = .ok (.agg #[a4, a5]) w := by
  simp [Instr.index, run_underlying Tryd.underlying56, asIntOf, go_sem]
theorem ix56_3 (a0 a1 a2 a3 a4 a5 a6 a7 a8 a9 a10 a11 : Value) (w : World) : (Instr.index 56 (.agg #[a0, a1, a2, a3, a4, a5, a6, a7, a8, a9, a10, a11]) (.int .i64 3)).run Tryd.prog w = .ok (.agg #[a6, a7]) w := by
  simp [Instr.index, run_underlying Tryd.underlying56, asIntOf, go_sem]
theorem ix56_4 (a0 a1 a2 a3 a4 a5 a6 a7 a8 a9 a10 a11 : Value) (w : World) : (Instr.index 56 (.agg #[a0, a1, a2, a3, a4, a5, a6, a7, a8, a9, a10, a11]) (.int .i64 4)).run Tryd.prog w = .ok (.agg #[a8, a9]) w := by
  simp [Instr.index, run_underlying Tryd.underlying56, asIntOf, go_sem]
theorem ix56_5 (a0 a1 a2 a3 a4 a5 a6 a7 a8 a9 a10 a11 : Value) (w : World) : (Instr.index 56 (.agg #[a0, a1, a2, a3, a4, a5, a6, a7, a8, a9, a10, a11]) (.int .i64 5)).run Tryd.prog w = .ok (.agg #[a10, a11]) w := by
  simp [Instr.index, run_underlying Tryd.underlying56, asIntOf, go_sem]

set_option maxRecDepth 100000 in
set_option maxHeartbeats 4000000 in
theorem raw_any (l : Bs) (m : Int) (w : World) (hl : l.length ≤ 4294967280) (hm : w.cell? ⟨0, 0, none⟩ = some (.int .i64 m)) :
    Calls Tryd.prog 16 #[.string (sv l)] w fun e w' => e = .returned (.int .i64 (rawN l : Nat)) ∧ Mod (fun _ => False) w w' := by
  have HM := Lib.hid hm
  have hsz := sv_size l
  have HL := Lib.hid hl
  clear hm
  by_cases h0 : tagN l = 0
  · have HR : Hid (rawN l = took l (rawFrom l 0)) := Lib.hid (by unfold rawN; rw [raw_of_not_tag (tagN_zero h0), raw_from])
    have HT := Lib.hid h0
    clear h0
    go_enter Tryd.func16, Tryd.ntmps16
    go_wp2_with (fail)
    refine (tag_n HT.out HL.out _).mono ?_
    rintro e w1 ⟨rfl, hm1⟩
    have HM1 := Lib.hid hm1
    clear hm1
    go_wp2
    go_loopw [21] (fun i wr => ∃ k : Nat, i = .int .i64 k ∧ k ≤ 6 ∧ Hid (Mod (fun _ => False) w wr) ∧ Hid (rawN l = took l (rawFrom l k))) (fun i _ => 6 - (intOf i).toNat)
    case atStart => exact ⟨0, rfl, by omega, HM1, HR⟩
    case round =>
      obtain ⟨k, rfl, hk, hM, hR⟩ := hrel
      have hix0 := fun w => ix56_0 (.string ⟨#[60, 33, 45, 45, 62]⟩) (.string ⟨#[]⟩) (.string ⟨#[60, 33, 45, 45, 45, 62]⟩) (.string ⟨#[]⟩) (.string ⟨#[60, 33, 45, 45]⟩) (.string ⟨#[45, 45, 62]⟩) (.string ⟨#[60, 63]⟩) (.string ⟨#[63, 62]⟩) (.string ⟨#[60, 33, 91, 67, 68, 65, 84, 65, 91]⟩) (.string ⟨#[93, 93, 62]⟩) (.string ⟨#[60, 33]⟩) (.string ⟨#[62]⟩) w
      have hix1 := fun w => ix56_1 (.string ⟨#[60, 33, 45, 45, 62]⟩) (.string ⟨#[]⟩) (.string ⟨#[60, 33, 45, 45, 45, 62]⟩) (.string ⟨#[]⟩) (.string ⟨#[60, 33, 45, 45]⟩) (.string ⟨#[45, 45, 62]⟩) (.string ⟨#[60, 63]⟩) (.string ⟨#[63, 62]⟩) (.string ⟨#[60, 33, 91, 67, 68, 65, 84, 65, 91]⟩) (.string ⟨#[93, 93, 62]⟩) (.string ⟨#[60, 33]⟩) (.string ⟨#[62]⟩) w
      have hix2 := fun w => ix56_2 (.string ⟨#[60, 33, 45, 45, 62]⟩) (.string ⟨#[]⟩) (.string ⟨#[60, 33, 45, 45, 45, 62]⟩) (.string ⟨#[]⟩) (.string ⟨#[60, 33, 45, 45]⟩) (.string ⟨#[45, 45, 62]⟩) (.string ⟨#[60, 63]⟩) (.string ⟨#[63, 62]⟩) (.string ⟨#[60, 33, 91, 67, 68, 65, 84, 65, 91]⟩) (.string ⟨#[93, 93, 62]⟩) (.string ⟨#[60, 33]⟩) (.string ⟨#[62]⟩) w
      have hix3 := fun w => ix56_3 (.string ⟨#[60, 33, 45, 45, 62]⟩) (.string ⟨#[]⟩) (.string ⟨#[60, 33, 45, 45, 45, 62]⟩) (.string ⟨#[]⟩) (.string ⟨#[60, 33, 45, 45]⟩) (.string ⟨#[45, 45, 62]⟩) (.string ⟨#[60, 63]⟩) (.string ⟨#[63, 62]⟩) (.string ⟨#[60, 33, 91, 67, 68, 65, 84, 65, 91]⟩) (.string ⟨#[93, 93, 62]⟩) (.string ⟨#[60, 33]⟩) (.string ⟨#[62]⟩) w
      have hix4 := fun w => ix56_4 (.string ⟨#[60, 33, 45, 45, 62]⟩) (.string ⟨#[]⟩) (.string ⟨#[60, 33, 45, 45, 45, 62]⟩) (.string ⟨#[]⟩) (.string ⟨#[60, 33, 45, 45]⟩) (.string ⟨#[45, 45, 62]⟩) (.string ⟨#[60, 63]⟩) (.string ⟨#[63, 62]⟩) (.string ⟨#[60, 33, 91, 67, 68, 65, 84, 65, 91]⟩) (.string ⟨#[93, 93, 62]⟩) (.string ⟨#[60, 33]⟩) (.string ⟨#[62]⟩) w
      have hix5 := fun w => ix56_5 (.string ⟨#[60, 33, 45, 45, 62]⟩) (.string ⟨#[]⟩) (.string ⟨#[60, 33, 45, 45, 45, 62]⟩) (.string ⟨#[]⟩) (.string ⟨#[60, 33, 45, 45]⟩) (.string ⟨#[45, 45, 62]⟩) (.string ⟨#[60, 63]⟩) (.string ⟨#[63, 62]⟩) (.string ⟨#[60, 33, 91, 67, 68, 65, 84, 65, 91]⟩) (.string ⟨#[93, 93, 62]⟩) (.string ⟨#[60, 33]⟩) (.string ⟨#[62]⟩) w
      have hx : k = 0 ∨ k = 1 ∨ k = 2 ∨ k = 3 ∨ k = 4 ∨ k = 5 ∨ k = 6 := by omega
      rcases hx with rfl | rfl | rfl | rfl | rfl | rfl | rfl
      · rcases hp : ([60, 33, 45, 45, 62] : Bs).isPrefixOf l with _ | _
        · have HP := Lib.hid hp
          have hmp : Hid ((if ([60, 33, 45, 45, 62] : Bs).isPrefixOf l then l.drop ([60, 33, 45, 45, 62] : Bs).length else l) = l) := Lib.hid (by rw [hp]; rfl)
          have HR2 : Hid (rawN l = took l (rawFrom l 1)) := Lib.hid (by rw [hR.out]; show took l (R0 l) = took l (R1 l); unfold R0; rw [hp]; rfl)
          clear hp hR
          have HMa := Lib.hid (hM.out.alloc (.cells #[.string ⟨#[60, 33, 45, 45, 62]⟩, .string ⟨#[]⟩] 55))
          have hbk := Blk.new wr #[.string ⟨#[60, 33, 45, 45, 62]⟩, .string ⟨#[]⟩] 55
          have hc0 := hbk.cell 0
          have hc1 := hbk.cell 1
          simp only [List.getElem?_toArray, List.getElem?_cons_zero, List.getElem?_cons_succ] at hc0 hc1
          go_wp2_with (fail)
          refine (cp_b (t := [60, 33, 45, 45, 62]) HP.out hmp.out _).mono ?_
          rintro e w2 ⟨rfl, rfl⟩
          go_wp2
          go_roundw
          case rel => exact ⟨1, by go_num, by omega, HMa, HR2⟩
          case measure => simp [intOf]
        · skip
          have HP := Lib.hid hp
          have hlp : (5 : Nat) ≤ l.length := by have := (List.isPrefixOf_iff_prefix.1 hp).length_le; exact this
          obtain ⟨r, hr⟩ : ∃ r, l.drop 5 = r := ⟨_, rfl⟩
          have hrl : r.length + 5 = l.length := by rw [← hr, List.length_drop]; omega
          have hmp : Hid ((if ([60, 33, 45, 45, 62] : Bs).isPrefixOf l then l.drop ([60, 33, 45, 45, 62] : Bs).length else l) = r) := Lib.hid (by rw [hp, if_pos rfl]; exact hr)
          have hrs := sv_size r
          have hrt := sv_toList r
          have HR2 : Hid (rawN l = took l (uptoF [] r)) := Lib.hid (by rw [hR.out]; show took l (R0 l) = _; unfold R0; rw [hp, if_pos rfl, hr])
          have hrl2 : r.length ≤ 4294967280 := by omega
          have hid := fun w hm => idx_e r [] m w hrl2 hm
          rcases upto_idx [] r with ⟨u1, u2⟩ | ⟨n, u1, u2, u3⟩
          · have HF : Hid (rawN l = 0) := Lib.hid (by rw [HR2.out, u2]; rfl)
            rw [u1] at hid
            clear hp hr hR u1 u2 HR2
            have HMa := Lib.hid (hM.out.alloc (.cells #[.string ⟨#[60, 33, 45, 45, 62]⟩, .string ⟨#[]⟩] 55))
            have hbk := Blk.new wr #[.string ⟨#[60, 33, 45, 45, 62]⟩, .string ⟨#[]⟩] 55
            have hc0 := hbk.cell 0
            have hc1 := hbk.cell 1
            simp only [List.getElem?_toArray, List.getElem?_cons_zero, List.getElem?_cons_succ] at hc0 hc1
            go_wp2_with (fail)
            refine (cp_b (t := [60, 33, 45, 45, 62]) HP.out hmp.out _).mono ?_
            rintro e w2 ⟨rfl, rfl⟩
            go_wp2_with (fail)
            refine (hid _ (mod_cell HMa.out HM.out)).mono ?_
            rintro e w4 ⟨rfl, rfl⟩
            go_wp2
            go_ret
            exact ⟨ret_int (by rw [HF.out]; rfl), HMa.out⟩
          · have u2' : n + 0 ≤ r.length := u2
            have HF : Hid (rawN l = 5 + n + 0) := Lib.hid (by
              rw [HR2.out, u3]
              show l.length - (r.drop (n + 0)).length = _
              rw [List.length_drop]; omega)
            rw [u1] at hid
            clear hp hr hR u1 u2 u3 HR2
            have HMa := Lib.hid (hM.out.alloc (.cells #[.string ⟨#[60, 33, 45, 45, 62]⟩, .string ⟨#[]⟩] 55))
            have hbk := Blk.new wr #[.string ⟨#[60, 33, 45, 45, 62]⟩, .string ⟨#[]⟩] 55
            have hc0 := hbk.cell 0
            have hc1 := hbk.cell 1
            simp only [List.getElem?_toArray, List.getElem?_cons_zero, List.getElem?_cons_succ] at hc0 hc1
            go_wp2_with (fail)
            refine (cp_b (t := [60, 33, 45, 45, 62]) HP.out hmp.out _).mono ?_
            rintro e w2 ⟨rfl, rfl⟩
            go_wp2_with (fail)
            refine (hid _ (mod_cell HMa.out HM.out)).mono ?_
            rintro e w4 ⟨rfl, rfl⟩
            go_wp2
            go_ret
            exact ⟨ret_int (by rw [HF.out]; omega), HMa.out⟩
      · rcases hp : ([60, 33, 45, 45, 45, 62] : Bs).isPrefixOf l with _ | _
        · have HP := Lib.hid hp
          have hmp : Hid ((if ([60, 33, 45, 45, 45, 62] : Bs).isPrefixOf l then l.drop ([60, 33, 45, 45, 45, 62] : Bs).length else l) = l) := Lib.hid (by rw [hp]; rfl)
          have HR2 : Hid (rawN l = took l (rawFrom l 2)) := Lib.hid (by rw [hR.out]; show took l (R1 l) = took l (R2 l); unfold R1; rw [hp]; rfl)
          clear hp hR
          have HMa := Lib.hid (hM.out.alloc (.cells #[.string ⟨#[60, 33, 45, 45, 45, 62]⟩, .string ⟨#[]⟩] 55))
          have hbk := Blk.new wr #[.string ⟨#[60, 33, 45, 45, 45, 62]⟩, .string ⟨#[]⟩] 55
          have hc0 := hbk.cell 0
          have hc1 := hbk.cell 1
          simp only [List.getElem?_toArray, List.getElem?_cons_zero, List.getElem?_cons_succ] at hc0 hc1
          go_wp2_with (fail)
          refine (cp_b (t := [60, 33, 45, 45, 45, 62]) HP.out hmp.out _).mono ?_
          rintro e w2 ⟨rfl, rfl⟩
          go_wp2
          go_roundw
          case rel => exact ⟨2, by go_num, by omega, HMa, HR2⟩
          case measure => simp [intOf]
        · skip
          have HP := Lib.hid hp
          have hlp : (6 : Nat) ≤ l.length := by have := (List.isPrefixOf_iff_prefix.1 hp).length_le; exact this
          obtain ⟨r, hr⟩ : ∃ r, l.drop 6 = r := ⟨_, rfl⟩
          have hrl : r.length + 6 = l.length := by rw [← hr, List.length_drop]; omega
          have hmp : Hid ((if ([60, 33, 45, 45, 45, 62] : Bs).isPrefixOf l then l.drop ([60, 33, 45, 45, 45, 62] : Bs).length else l) = r) := Lib.hid (by rw [hp, if_pos rfl]; exact hr)
          have hrs := sv_size r
          have hrt := sv_toList r
          have HR2 : Hid (rawN l = took l (uptoF [] r)) := Lib.hid (by rw [hR.out]; show took l (R1 l) = _; unfold R1; rw [hp, if_pos rfl, hr])
          have hrl2 : r.length ≤ 4294967280 := by omega
          have hid := fun w hm => idx_e r [] m w hrl2 hm
          rcases upto_idx [] r with ⟨u1, u2⟩ | ⟨n, u1, u2, u3⟩
          · have HF : Hid (rawN l = 0) := Lib.hid (by rw [HR2.out, u2]; rfl)
            rw [u1] at hid
            clear hp hr hR u1 u2 HR2
            have HMa := Lib.hid (hM.out.alloc (.cells #[.string ⟨#[60, 33, 45, 45, 45, 62]⟩, .string ⟨#[]⟩] 55))
            have hbk := Blk.new wr #[.string ⟨#[60, 33, 45, 45, 45, 62]⟩, .string ⟨#[]⟩] 55
            have hc0 := hbk.cell 0
            have hc1 := hbk.cell 1
            simp only [List.getElem?_toArray, List.getElem?_cons_zero, List.getElem?_cons_succ] at hc0 hc1
            go_wp2_with (fail)
            refine (cp_b (t := [60, 33, 45, 45, 45, 62]) HP.out hmp.out _).mono ?_
            rintro e w2 ⟨rfl, rfl⟩
            go_wp2_with (fail)
            refine (hid _ (mod_cell HMa.out HM.out)).mono ?_
            rintro e w4 ⟨rfl, rfl⟩
            go_wp2
            go_ret
            exact ⟨ret_int (by rw [HF.out]; rfl), HMa.out⟩
          · have u2' : n + 0 ≤ r.length := u2
            have HF : Hid (rawN l = 6 + n + 0) := Lib.hid (by
              rw [HR2.out, u3]
              show l.length - (r.drop (n + 0)).length = _
              rw [List.length_drop]; omega)
            rw [u1] at hid
            clear hp hr hR u1 u2 u3 HR2
            have HMa := Lib.hid (hM.out.alloc (.cells #[.string ⟨#[60, 33, 45, 45, 45, 62]⟩, .string ⟨#[]⟩] 55))
            have hbk := Blk.new wr #[.string ⟨#[60, 33, 45, 45, 45, 62]⟩, .string ⟨#[]⟩] 55
            have hc0 := hbk.cell 0
            have hc1 := hbk.cell 1
            simp only [List.getElem?_toArray, List.getElem?_cons_zero, List.getElem?_cons_succ] at hc0 hc1
            go_wp2_with (fail)
            refine (cp_b (t := [60, 33, 45, 45, 45, 62]) HP.out hmp.out _).mono ?_
            rintro e w2 ⟨rfl, rfl⟩
            go_wp2_with (fail)
            refine (hid _ (mod_cell HMa.out HM.out)).mono ?_
            rintro e w4 ⟨rfl, rfl⟩
            go_wp2
            go_ret
            exact ⟨ret_int (by rw [HF.out]; omega), HMa.out⟩
      · rcases hp : ([60, 33, 45, 45] : Bs).isPrefixOf l with _ | _
        · have HP := Lib.hid hp
          have hmp : Hid ((if ([60, 33, 45, 45] : Bs).isPrefixOf l then l.drop ([60, 33, 45, 45] : Bs).length else l) = l) := Lib.hid (by rw [hp]; rfl)
          have HR2 : Hid (rawN l = took l (rawFrom l 3)) := Lib.hid (by rw [hR.out]; show took l (R2 l) = took l (R3 l); unfold R2; rw [hp]; rfl)
          clear hp hR
          have HMa := Lib.hid (hM.out.alloc (.cells #[.string ⟨#[60, 33, 45, 45]⟩, .string ⟨#[45, 45, 62]⟩] 55))
          have hbk := Blk.new wr #[.string ⟨#[60, 33, 45, 45]⟩, .string ⟨#[45, 45, 62]⟩] 55
          have hc0 := hbk.cell 0
          have hc1 := hbk.cell 1
          simp only [List.getElem?_toArray, List.getElem?_cons_zero, List.getElem?_cons_succ] at hc0 hc1
          go_wp2_with (fail)
          refine (cp_b (t := [60, 33, 45, 45]) HP.out hmp.out _).mono ?_
          rintro e w2 ⟨rfl, rfl⟩
          go_wp2
          go_roundw
          case rel => exact ⟨3, by go_num, by omega, HMa, HR2⟩
          case measure => simp [intOf]
        · skip
          have HP := Lib.hid hp
          have hlp : (4 : Nat) ≤ l.length := by have := (List.isPrefixOf_iff_prefix.1 hp).length_le; exact this
          obtain ⟨r, hr⟩ : ∃ r, l.drop 4 = r := ⟨_, rfl⟩
          have hrl : r.length + 4 = l.length := by rw [← hr, List.length_drop]; omega
          have hmp : Hid ((if ([60, 33, 45, 45] : Bs).isPrefixOf l then l.drop ([60, 33, 45, 45] : Bs).length else l) = r) := Lib.hid (by rw [hp, if_pos rfl]; exact hr)
          have hrs := sv_size r
          have hrt := sv_toList r
          have HR2 : Hid (rawN l = took l (uptoF [45, 45, 62] r)) := Lib.hid (by rw [hR.out]; show took l (R2 l) = _; unfold R2; rw [hp, if_pos rfl, hr])
          have hrl2 : r.length ≤ 4294967280 := by omega
          have hid := fun w hm => idx_e r [45, 45, 62] m w hrl2 hm
          rcases upto_idx [45, 45, 62] r with ⟨u1, u2⟩ | ⟨n, u1, u2, u3⟩
          · have HF : Hid (rawN l = 0) := Lib.hid (by rw [HR2.out, u2]; rfl)
            rw [u1] at hid
            clear hp hr hR u1 u2 HR2
            have HMa := Lib.hid (hM.out.alloc (.cells #[.string ⟨#[60, 33, 45, 45]⟩, .string ⟨#[45, 45, 62]⟩] 55))
            have hbk := Blk.new wr #[.string ⟨#[60, 33, 45, 45]⟩, .string ⟨#[45, 45, 62]⟩] 55
            have hc0 := hbk.cell 0
            have hc1 := hbk.cell 1
            simp only [List.getElem?_toArray, List.getElem?_cons_zero, List.getElem?_cons_succ] at hc0 hc1
            go_wp2_with (fail)
            refine (cp_b (t := [60, 33, 45, 45]) HP.out hmp.out _).mono ?_
            rintro e w2 ⟨rfl, rfl⟩
            go_wp2_with (fail)
            refine (hid _ (mod_cell HMa.out HM.out)).mono ?_
            rintro e w4 ⟨rfl, rfl⟩
            go_wp2
            go_ret
            exact ⟨ret_int (by rw [HF.out]; rfl), HMa.out⟩
          · have u2' : n + 3 ≤ r.length := u2
            have HF : Hid (rawN l = 4 + n + 3) := Lib.hid (by
              rw [HR2.out, u3]
              show l.length - (r.drop (n + 3)).length = _
              rw [List.length_drop]; omega)
            rw [u1] at hid
            clear hp hr hR u1 u2 u3 HR2
            have HMa := Lib.hid (hM.out.alloc (.cells #[.string ⟨#[60, 33, 45, 45]⟩, .string ⟨#[45, 45, 62]⟩] 55))
            have hbk := Blk.new wr #[.string ⟨#[60, 33, 45, 45]⟩, .string ⟨#[45, 45, 62]⟩] 55
            have hc0 := hbk.cell 0
            have hc1 := hbk.cell 1
            simp only [List.getElem?_toArray, List.getElem?_cons_zero, List.getElem?_cons_succ] at hc0 hc1
            go_wp2_with (fail)
            refine (cp_b (t := [60, 33, 45, 45]) HP.out hmp.out _).mono ?_
            rintro e w2 ⟨rfl, rfl⟩
            go_wp2_with (fail)
            refine (hid _ (mod_cell HMa.out HM.out)).mono ?_
            rintro e w4 ⟨rfl, rfl⟩
            go_wp2
            go_ret
            exact ⟨ret_int (by rw [HF.out]; omega), HMa.out⟩
      · rcases hp : ([60, 63] : Bs).isPrefixOf l with _ | _
        · have HP := Lib.hid hp
          have hmp : Hid ((if ([60, 63] : Bs).isPrefixOf l then l.drop ([60, 63] : Bs).length else l) = l) := Lib.hid (by rw [hp]; rfl)
          have HR2 : Hid (rawN l = took l (rawFrom l 4)) := Lib.hid (by rw [hR.out]; show took l (R3 l) = took l (R4 l); unfold R3; rw [hp]; rfl)
          clear hp hR
          have HMa := Lib.hid (hM.out.alloc (.cells #[.string ⟨#[60, 63]⟩, .string ⟨#[63, 62]⟩] 55))
          have hbk := Blk.new wr #[.string ⟨#[60, 63]⟩, .string ⟨#[63, 62]⟩] 55
          have hc0 := hbk.cell 0
          have hc1 := hbk.cell 1
          simp only [List.getElem?_toArray, List.getElem?_cons_zero, List.getElem?_cons_succ] at hc0 hc1
          go_wp2_with (fail)
          refine (cp_b (t := [60, 63]) HP.out hmp.out _).mono ?_
          rintro e w2 ⟨rfl, rfl⟩
          go_wp2
          go_roundw
          case rel => exact ⟨4, by go_num, by omega, HMa, HR2⟩
          case measure => simp [intOf]
        · skip
          have HP := Lib.hid hp
          have hlp : (2 : Nat) ≤ l.length := by have := (List.isPrefixOf_iff_prefix.1 hp).length_le; exact this
          obtain ⟨r, hr⟩ : ∃ r, l.drop 2 = r := ⟨_, rfl⟩
          have hrl : r.length + 2 = l.length := by rw [← hr, List.length_drop]; omega
          have hmp : Hid ((if ([60, 63] : Bs).isPrefixOf l then l.drop ([60, 63] : Bs).length else l) = r) := Lib.hid (by rw [hp, if_pos rfl]; exact hr)
          have hrs := sv_size r
          have hrt := sv_toList r
          have HR2 : Hid (rawN l = took l (uptoF [63, 62] r)) := Lib.hid (by rw [hR.out]; show took l (R3 l) = _; unfold R3; rw [hp, if_pos rfl, hr])
          have hrl2 : r.length ≤ 4294967280 := by omega
          have hid := fun w hm => idx_e r [63, 62] m w hrl2 hm
          rcases upto_idx [63, 62] r with ⟨u1, u2⟩ | ⟨n, u1, u2, u3⟩
          · have HF : Hid (rawN l = 0) := Lib.hid (by rw [HR2.out, u2]; rfl)
            rw [u1] at hid
            clear hp hr hR u1 u2 HR2
            have HMa := Lib.hid (hM.out.alloc (.cells #[.string ⟨#[60, 63]⟩, .string ⟨#[63, 62]⟩] 55))
            have hbk := Blk.new wr #[.string ⟨#[60, 63]⟩, .string ⟨#[63, 62]⟩] 55
            have hc0 := hbk.cell 0
            have hc1 := hbk.cell 1
            simp only [List.getElem?_toArray, List.getElem?_cons_zero, List.getElem?_cons_succ] at hc0 hc1
            go_wp2_with (fail)
            refine (cp_b (t := [60, 63]) HP.out hmp.out _).mono ?_
            rintro e w2 ⟨rfl, rfl⟩
            go_wp2_with (fail)
            refine (hid _ (mod_cell HMa.out HM.out)).mono ?_
            rintro e w4 ⟨rfl, rfl⟩
            go_wp2
            go_ret
            exact ⟨ret_int (by rw [HF.out]; rfl), HMa.out⟩
          · have u2' : n + 2 ≤ r.length := u2
            have HF : Hid (rawN l = 2 + n + 2) := Lib.hid (by
              rw [HR2.out, u3]
              show l.length - (r.drop (n + 2)).length = _
              rw [List.length_drop]; omega)
            rw [u1] at hid
            clear hp hr hR u1 u2 u3 HR2
            have HMa := Lib.hid (hM.out.alloc (.cells #[.string ⟨#[60, 63]⟩, .string ⟨#[63, 62]⟩] 55))
            have hbk := Blk.new wr #[.string ⟨#[60, 63]⟩, .string ⟨#[63, 62]⟩] 55
            have hc0 := hbk.cell 0
            have hc1 := hbk.cell 1
            simp only [List.getElem?_toArray, List.getElem?_cons_zero, List.getElem?_cons_succ] at hc0 hc1
            go_wp2_with (fail)
            refine (cp_b (t := [60, 63]) HP.out hmp.out _).mono ?_
            rintro e w2 ⟨rfl, rfl⟩
            go_wp2_with (fail)
            refine (hid _ (mod_cell HMa.out HM.out)).mono ?_
            rintro e w4 ⟨rfl, rfl⟩
            go_wp2
            go_ret
            exact ⟨ret_int (by rw [HF.out]; omega), HMa.out⟩
      · rcases hp : ([60, 33, 91, 67, 68, 65, 84, 65, 91] : Bs).isPrefixOf l with _ | _
        · have HP := Lib.hid hp
          have hmp : Hid ((if ([60, 33, 91, 67, 68, 65, 84, 65, 91] : Bs).isPrefixOf l then l.drop ([60, 33, 91, 67, 68, 65, 84, 65, 91] : Bs).length else l) = l) := Lib.hid (by rw [hp]; rfl)
          have HR2 : Hid (rawN l = took l (rawFrom l 5)) := Lib.hid (by rw [hR.out]; show took l (R4 l) = took l (R5 l); unfold R4; rw [hp]; rfl)
          clear hp hR
          have HMa := Lib.hid (hM.out.alloc (.cells #[.string ⟨#[60, 33, 91, 67, 68, 65, 84, 65, 91]⟩, .string ⟨#[93, 93, 62]⟩] 55))
          have hbk := Blk.new wr #[.string ⟨#[60, 33, 91, 67, 68, 65, 84, 65, 91]⟩, .string ⟨#[93, 93, 62]⟩] 55
          have hc0 := hbk.cell 0
          have hc1 := hbk.cell 1
          simp only [List.getElem?_toArray, List.getElem?_cons_zero, List.getElem?_cons_succ] at hc0 hc1
          go_wp2_with (fail)
          refine (cp_b (t := [60, 33, 91, 67, 68, 65, 84, 65, 91]) HP.out hmp.out _).mono ?_
          rintro e w2 ⟨rfl, rfl⟩
          go_wp2
          go_roundw
          case rel => exact ⟨5, by go_num, by omega, HMa, HR2⟩
          case measure => simp [intOf]
        · skip
          have HP := Lib.hid hp
          have hlp : (9 : Nat) ≤ l.length := by have := (List.isPrefixOf_iff_prefix.1 hp).length_le; exact this
          obtain ⟨r, hr⟩ : ∃ r, l.drop 9 = r := ⟨_, rfl⟩
          have hrl : r.length + 9 = l.length := by rw [← hr, List.length_drop]; omega
          have hmp : Hid ((if ([60, 33, 91, 67, 68, 65, 84, 65, 91] : Bs).isPrefixOf l then l.drop ([60, 33, 91, 67, 68, 65, 84, 65, 91] : Bs).length else l) = r) := Lib.hid (by rw [hp, if_pos rfl]; exact hr)
          have hrs := sv_size r
          have hrt := sv_toList r
          have HR2 : Hid (rawN l = took l (uptoF [93, 93, 62] r)) := Lib.hid (by rw [hR.out]; show took l (R4 l) = _; unfold R4; rw [hp, if_pos rfl, hr])
          have hrl2 : r.length ≤ 4294967280 := by omega
          have hid := fun w hm => idx_e r [93, 93, 62] m w hrl2 hm
          rcases upto_idx [93, 93, 62] r with ⟨u1, u2⟩ | ⟨n, u1, u2, u3⟩
          · have HF : Hid (rawN l = 0) := Lib.hid (by rw [HR2.out, u2]; rfl)
            rw [u1] at hid
            clear hp hr hR u1 u2 HR2
            have HMa := Lib.hid (hM.out.alloc (.cells #[.string ⟨#[60, 33, 91, 67, 68, 65, 84, 65, 91]⟩, .string ⟨#[93, 93, 62]⟩] 55))
            have hbk := Blk.new wr #[.string ⟨#[60, 33, 91, 67, 68, 65, 84, 65, 91]⟩, .string ⟨#[93, 93, 62]⟩] 55
            have hc0 := hbk.cell 0
            have hc1 := hbk.cell 1
            simp only [List.getElem?_toArray, List.getElem?_cons_zero, List.getElem?_cons_succ] at hc0 hc1
            go_wp2_with (fail)
            refine (cp_b (t := [60, 33, 91, 67, 68, 65, 84, 65, 91]) HP.out hmp.out _).mono ?_
            rintro e w2 ⟨rfl, rfl⟩
            go_wp2_with (fail)
            refine (hid _ (mod_cell HMa.out HM.out)).mono ?_
            rintro e w4 ⟨rfl, rfl⟩
            go_wp2
            go_ret
            exact ⟨ret_int (by rw [HF.out]; rfl), HMa.out⟩
          · have u2' : n + 3 ≤ r.length := u2
            have HF : Hid (rawN l = 9 + n + 3) := Lib.hid (by
              rw [HR2.out, u3]
              show l.length - (r.drop (n + 3)).length = _
              rw [List.length_drop]; omega)
            rw [u1] at hid
            clear hp hr hR u1 u2 u3 HR2
            have HMa := Lib.hid (hM.out.alloc (.cells #[.string ⟨#[60, 33, 91, 67, 68, 65, 84, 65, 91]⟩, .string ⟨#[93, 93, 62]⟩] 55))
            have hbk := Blk.new wr #[.string ⟨#[60, 33, 91, 67, 68, 65, 84, 65, 91]⟩, .string ⟨#[93, 93, 62]⟩] 55
            have hc0 := hbk.cell 0
            have hc1 := hbk.cell 1
            simp only [List.getElem?_toArray, List.getElem?_cons_zero, List.getElem?_cons_succ] at hc0 hc1
            go_wp2_with (fail)
            refine (cp_b (t := [60, 33, 91, 67, 68, 65, 84, 65, 91]) HP.out hmp.out _).mono ?_
            rintro e w2 ⟨rfl, rfl⟩
            go_wp2_with (fail)
            refine (hid _ (mod_cell HMa.out HM.out)).mono ?_
            rintro e w4 ⟨rfl, rfl⟩
            go_wp2
            go_ret
            exact ⟨ret_int (by rw [HF.out]; omega), HMa.out⟩
      · rcases hp : ([60, 33] : Bs).isPrefixOf l with _ | _
        · have HP := Lib.hid hp
          have hmp : Hid ((if ([60, 33] : Bs).isPrefixOf l then l.drop ([60, 33] : Bs).length else l) = l) := Lib.hid (by rw [hp]; rfl)
          have HR2 : Hid (rawN l = took l (rawFrom l 6)) := Lib.hid (by rw [hR.out]; show took l (R5 l) = took l (none); unfold R5; rw [hp]; rfl)
          clear hp hR
          have HMa := Lib.hid (hM.out.alloc (.cells #[.string ⟨#[60, 33]⟩, .string ⟨#[62]⟩] 55))
          have hbk := Blk.new wr #[.string ⟨#[60, 33]⟩, .string ⟨#[62]⟩] 55
          have hc0 := hbk.cell 0
          have hc1 := hbk.cell 1
          simp only [List.getElem?_toArray, List.getElem?_cons_zero, List.getElem?_cons_succ] at hc0 hc1
          go_wp2_with (fail)
          refine (cp_b (t := [60, 33]) HP.out hmp.out _).mono ?_
          rintro e w2 ⟨rfl, rfl⟩
          go_wp2
          go_roundw
          case rel => exact ⟨6, by go_num, by omega, HMa, HR2⟩
          case measure => simp [intOf]
        · skip
          have HP := Lib.hid hp
          have hlp : (2 : Nat) ≤ l.length := by have := (List.isPrefixOf_iff_prefix.1 hp).length_le; exact this
          obtain ⟨r, hr⟩ : ∃ r, l.drop 2 = r := ⟨_, rfl⟩
          have hrl : r.length + 2 = l.length := by rw [← hr, List.length_drop]; omega
          have hmp : Hid ((if ([60, 33] : Bs).isPrefixOf l then l.drop ([60, 33] : Bs).length else l) = r) := Lib.hid (by rw [hp, if_pos rfl]; exact hr)
          have hrs := sv_size r
          have hrt := sv_toList r
          rcases r with _ | ⟨c, r⟩
          · have HR2 : Hid (rawN l = took l (rawFrom l 6)) := Lib.hid (by rw [hR.out]; show took l (R5 l) = took l none; unfold R5; rw [hp, hr, ltr1_nil]; rfl)
            clear hp hr hR
            have HMa := Lib.hid (hM.out.alloc (.cells #[.string ⟨#[60, 33]⟩, .string ⟨#[62]⟩] 55))
            have hbk := Blk.new wr #[.string ⟨#[60, 33]⟩, .string ⟨#[62]⟩] 55
            have hc0 := hbk.cell 0
            have hc1 := hbk.cell 1
            simp only [List.getElem?_toArray, List.getElem?_cons_zero, List.getElem?_cons_succ] at hc0 hc1
            go_wp2_with (fail)
            refine (cp_b (t := [60, 33]) HP.out hmp.out _).mono ?_
            rintro e w2 ⟨rfl, rfl⟩
            go_wp2
            go_roundw
            case rel => exact ⟨6, by go_num, by omega, HMa, HR2⟩
            case measure => simp [intOf]
          · have hb0 : ∀ h, (sv (c :: r))[0]'h = c := fun _ => rfl
            rcases hB : isB true false [] c with _ | _
            · have hi := fun w => is_any c true false [] w
              rw [hB] at hi
              have HR2 : Hid (rawN l = took l (rawFrom l 6)) := Lib.hid (by rw [hR.out]; show took l (R5 l) = took l none; unfold R5; rw [hp, hr, ltr1_cons, hB]; rfl)
              clear hp hr hR hB
              have HMa := Lib.hid (hM.out.alloc (.cells #[.string ⟨#[60, 33]⟩, .string ⟨#[62]⟩] 55))
              have hbk := Blk.new wr #[.string ⟨#[60, 33]⟩, .string ⟨#[62]⟩] 55
              have hc0 := hbk.cell 0
              have hc1 := hbk.cell 1
              simp only [List.getElem?_toArray, List.getElem?_cons_zero, List.getElem?_cons_succ] at hc0 hc1
              go_wp2_with (fail)
              refine (cp_b (t := [60, 33]) HP.out hmp.out _).mono ?_
              rintro e w2 ⟨rfl, rfl⟩
              go_wp2_with (fail)
              refine (hi _).mono ?_
              rintro e w3 ⟨rfl, rfl⟩
              go_wp2
              go_roundw
              case rel => exact ⟨6, by go_num, by omega, HMa, HR2⟩
              case measure => simp [intOf]
            · have hi := fun w => is_any c true false [] w
              rw [hB] at hi
              have HR2 : Hid (rawN l = took l (uptoF [62] (c :: r))) := Lib.hid (by rw [hR.out]; show took l (R5 l) = _; unfold R5; rw [hp, hr, ltr1_cons, hB]; rfl)
              clear hB
              have hrl2 : (c :: r).length ≤ 4294967280 := by omega
              have hid := fun w hm => idx_e (c :: r) [62] m w hrl2 hm
              rcases upto_idx [62] (c :: r) with ⟨u1, u2⟩ | ⟨n, u1, u2, u3⟩
              · have HF : Hid (rawN l = 0) := Lib.hid (by rw [HR2.out, u2]; rfl)
                rw [u1] at hid
                clear hp hr hR u1 u2 HR2
                have HMa := Lib.hid (hM.out.alloc (.cells #[.string ⟨#[60, 33]⟩, .string ⟨#[62]⟩] 55))
                have hbk := Blk.new wr #[.string ⟨#[60, 33]⟩, .string ⟨#[62]⟩] 55
                have hc0 := hbk.cell 0
                have hc1 := hbk.cell 1
                simp only [List.getElem?_toArray, List.getElem?_cons_zero, List.getElem?_cons_succ] at hc0 hc1
                go_wp2_with (fail)
                refine (cp_b (t := [60, 33]) HP.out hmp.out _).mono ?_
                rintro e w2 ⟨rfl, rfl⟩
                go_wp2_with (fail)
                refine (hi _).mono ?_
                rintro e w3 ⟨rfl, rfl⟩
                go_wp2_with (fail)
                refine (hid _ (mod_cell HMa.out HM.out)).mono ?_
                rintro e w4 ⟨rfl, rfl⟩
                go_wp2
                go_ret
                exact ⟨ret_int (by rw [HF.out]; rfl), HMa.out⟩
              · have u2' : n + 1 ≤ (c :: r).length := u2
                have HF : Hid (rawN l = 2 + n + 1) := Lib.hid (by
                  rw [HR2.out, u3]
                  show l.length - ((c :: r).drop (n + 1)).length = _
                  rw [List.length_drop]; omega)
                rw [u1] at hid
                clear hp hr hR u1 u2 u3 HR2
                have HMa := Lib.hid (hM.out.alloc (.cells #[.string ⟨#[60, 33]⟩, .string ⟨#[62]⟩] 55))
                have hbk := Blk.new wr #[.string ⟨#[60, 33]⟩, .string ⟨#[62]⟩] 55
                have hc0 := hbk.cell 0
                have hc1 := hbk.cell 1
                simp only [List.getElem?_toArray, List.getElem?_cons_zero, List.getElem?_cons_succ] at hc0 hc1
                go_wp2_with (fail)
                refine (cp_b (t := [60, 33]) HP.out hmp.out _).mono ?_
                rintro e w2 ⟨rfl, rfl⟩
                go_wp2_with (fail)
                refine (hi _).mono ?_
                rintro e w3 ⟨rfl, rfl⟩
                go_wp2_with (fail)
                refine (hid _ (mod_cell HMa.out HM.out)).mono ?_
                rintro e w4 ⟨rfl, rfl⟩
                go_wp2
                go_ret
                exact ⟨ret_int (by rw [HF.out]; omega), HMa.out⟩
      · have HF : Hid (rawN l = 0) := Lib.hid (by rw [hR.out]; rfl)
        clear hR
        go_wp2
        go_ret
        exact ⟨ret_int (by rw [HF.out]; rfl), hM.out⟩
  · have HR : Hid (rawN l = tagN l) := Lib.hid (rawN_tag h0)
    obtain ⟨n, hn⟩ : ∃ n, tagN l = n := ⟨_, rfl⟩
    rw [hn] at h0
    have hn0 : (0 : Int) < n := by omega
    have HT := Lib.hid hn
    clear hn h0
    go_enter Tryd.func16, Tryd.ntmps16
    go_wp2_with (fail)
    refine (tag_n HT.out HL.out _).mono ?_
    rintro e w1 ⟨rfl, hm1⟩
    have HM1 := Lib.hid hm1
    clear hm1
    go_wp2
    go_ret
    exact ⟨ret_int (by rw [HR.out, HT.out]), HM1.out⟩
end Go.Proofs.YtkmidilaabgooaaDoor
