/-
  acl's small functions: Name, Who.
-/
import Derived.Test.YtpbdcjgconopnaaProg
import Derived.Test.YtpbdcjgconopnaaCat
import Derived.Test.YtpbdcjgconopnaaArgs
import Derived.Test.YtpbdcjgconopnaaShelf
import Derived.Test.YtpbdcjgconopnaaNames
import Derived.WalkKit
import Derived.Tactics2
import Derived.Outline
import Derived.KernelRfl
import Derived.Deep.QuietTactic
import Derived.BigQuiet
import Derived.LoopTactic
import Derived.Deep.LoopGhost
import Derived.Deep.DeepCutAuto
import Derived.Deep.CutBlock
import Derived.Deep.RegionHeld3
import Derived.Deep.RegionWith
import Derived.Deep.RegionLaw
import Derived.StillTailTactics
import Derived.Laws.BitsLemmas
import Derived.WalkSpells
import Derived.Laws.BytesArg
import Derived.IntWalk
namespace Go.Proofs.Ytpbdcjgconopnaa
open Go.RowKit Mem
set_option linter.unusedVariables false

theorem ret_int {k : IntKind} {a b : Int} (h : a = b) : Ending.returned (.int k a) = .returned (.int k b) := by rw [h]
theorem ret_bool {a b : Bool} (h : a = b) : Ending.returned (.bool a) = .returned (.bool b) := by rw [h]
theorem odd_any (r : Nat) (W : World) : Calls Try.prog 27 #[.int .i32 (r : Int)] W fun e w' => e = .returned (.bool (oddR r)) ∧ W = w' := by
  have hr : oddR r = !((decide ((97 : Int) ≤ r) && decide ((r : Int) ≤ 122)) || (decide ((48 : Int) ≤ r) && decide ((r : Int) ≤ 57)) || ((r : Int) == 45)) := by
    unfold oddR
    have e1 : decide (97 ≤ r) = decide ((97 : Int) ≤ r) := by congr 1; apply propext; omega
    have e2 : decide (r ≤ 122) = decide ((r : Int) ≤ 122) := by congr 1; apply propext; omega
    have e3 : decide (48 ≤ r) = decide ((48 : Int) ≤ r) := by congr 1; apply propext; omega
    have e4 : decide (r ≤ 57) = decide ((r : Int) ≤ 57) := by congr 1; apply propext; omega
    have e5 : (r == 45) = ((r : Int) == 45) := by rw [Bool.eq_iff_iff]; simp; omega
    rw [e1, e2, e3, e4, e5]
  rw [hr]
  clear hr
  by_cases h1 : (97 : Int) ≤ (r : Int)
  · by_cases h2 : (r : Int) ≤ 122
    · have h3 : (48 : Int) ≤ r := by omega
      go_enter Try.func27, Try.ntmps27
      go_wp2
      go_ret
      exact ⟨by simp [h1, h2], rfl⟩
    · have h3 : (48 : Int) ≤ r := by omega
      go_enter Try.func27, Try.ntmps27
      go_wp2
      go_ret
      have h2' : ¬ (r : Int) ≤ 122 := by omega
      exact ⟨by simp [h2'], rfl⟩
  · by_cases h3 : (48 : Int) ≤ r
    · by_cases h4 : (r : Int) ≤ 57
      all_goals
        go_enter Try.func27, Try.ntmps27
        go_wp2
        go_ret
        exact ⟨by simp [h1, h4], rfl⟩
    · go_enter Try.func27, Try.ntmps27
      go_wp2
      go_ret
      exact ⟨by simp [h1, h3], rfl⟩
theorem odd_at (w : World) : PredAt Try.prog 27 #[] encR oddR w := fun W x _ => (odd_any x W).mono fun e w' ⟨he, hw⟩ => ⟨he, 0, hw.symm⟩
theorem enter27 : ∀ args w, (callFunc 27 args).run Try.prog w = .ok (.enter 27 args) w := enters_of Try.func27 (by kernel_rfl) rfl

set_option maxHeartbeats 800000 in
theorem name_any (l : Bs) (w : World) : Calls Try.prog 12 #[.string (sv l)] w fun e w' => e = .returned (.bool (nm l)) ∧ Mod (fun _ => False) w w' := by
  have htl := sv_toList l
  have hsz := sv_size l
  rcases l with _ | ⟨b, l⟩
  · go_enter Try.func12, Try.ntmps12
    go_wp2
    go_ret
    exact ⟨rfl, Mod.refl _ _⟩
  · have hb0 : ∀ h, (sv (b :: l))[0]'h = b := fun _ => rfl
    have hnm : nm (b :: l) = (decide ((b :: l).length ≤ 16) && (97 ≤ b && b ≤ 122) && (b :: l).all okb) := rfl
    have e1 : decide ((97 : UInt8) ≤ b) = decide ((97 : Int) ≤ b.toNat) := by rw [Bool.eq_iff_iff]; simp [UInt8.le_iff_toNat_le]; omega
    have e2 : decide (b ≤ (122 : UInt8)) = decide ((b.toNat : Int) ≤ 122) := by rw [Bool.eq_iff_iff]; simp [UInt8.le_iff_toNat_le]; omega
    rw [e1, e2] at hnm
    have Hn := Lib.hid hnm
    have hlen : (b :: l).length = l.length + 1 := rfl
    rw [hlen] at hsz
    clear hnm hlen e1 e2
    by_cases hl : l.length + 1 ≤ 16
    · have hl' : ((l.length : Int) + 1) ≤ 16 := by omega
      by_cases h1 : (97 : Int) ≤ b.toNat
      · by_cases h2 : (b.toNat : Int) ≤ 122
        · have hco := contains_odd (b :: l)
          have Hco := Lib.hid hco
          clear hco
          go_enter Try.func12, Try.ntmps12
          go_wp2_with (fail)
          refine (Try.strings_ContainsFunc 27 #[] enter27 oddR _ w (odd_at w)).mono ?_
          rintro e w' ⟨rfl, hb⟩
          rw [Hco.out]
          have Hb := Lib.hid (mod_of_below hb)
          clear hb
          go_wp2
          go_ret
          refine ⟨ret_bool ?_, Hb.out⟩
          rw [Hn.out, decide_eq_true h1, decide_eq_true h2, decide_eq_true (show (b :: l).length ≤ 16 from hl)]
          simp
        · go_enter Try.func12, Try.ntmps12
          go_wp2
          go_ret
          exact ⟨ret_bool (by rw [Hn.out, decide_eq_false (show ¬ (b.toNat : Int) ≤ 122 by omega)]; simp), Mod.refl _ _⟩
      · go_enter Try.func12, Try.ntmps12
        go_wp2
        go_ret
        exact ⟨ret_bool (by rw [Hn.out, decide_eq_false (show ¬ (97 : Int) ≤ b.toNat by omega)]; simp), Mod.refl _ _⟩
    · have hl' : ¬ ((l.length : Int) + 1) ≤ 16 := by omega
      go_enter Try.func12, Try.ntmps12
      go_wp2
      go_ret
      exact ⟨ret_bool (by rw [Hn.out, decide_eq_false (show ¬ (b :: l).length ≤ 16 from hl)]; simp), Mod.refl _ _⟩

/-- stringslite.Cut at a byte. -/
theorem scut_any (l : Bs) (c : UInt8) (w : World) (hl : l.length ≤ 9223372036854775807) : Calls Try.prog 38 #[.string (sv l), .string ⟨#[c]⟩] w fun e w' =>
    e = .returned (match cut c l with | some (a, b) => .tuple #[.string (sv a), .string (sv b), .bool true] | none => .tuple #[.string (sv l), .string (sv []), .bool false]) ∧ Dr w w' := by
  have hidx := cut_index c l
  have hix := Try.stringslite_Index_one (sv l) c w
  rw [sv_list] at hix
  rcases hidx with ⟨h1, h2⟩ | ⟨n, h1, h2, h3⟩
  · rw [h1] at hix
    rw [h2]
    clear h1 h2
    go_enter Try.func38, Try.ntmps38
    go_wp2_with (go_at_call 42; refine hix.mono ?_; rintro e w' ⟨rfl, rfl⟩)
    go_ret3
    exact ⟨rfl, Dr.refl _⟩
  · rw [h1] at hix
    rw [h3]
    have hs1 : (sv l).extract 0 n = sv (l.take n) := by
      apply ByteArray.ext
      apply Array.toList_inj.1
      simp [sv]
    have hs2 : (sv l).extract (n + 1) l.length = sv (l.drop (n + 1)) := by
      apply ByteArray.ext
      apply Array.toList_inj.1
      simp [sv]
      rw [List.take_of_length_le (by simp)]
    have hsz := sv_size l
    have hc1 : (ByteArray.mk #[c]).size = 1 := rfl
    have q1 : (n : Int) ≤ (l.length : Int) := by omega
    have q2 : (n : Int) + 1 ≤ (l.length : Int) := by omega
    have q3 : (0 : Int) ≤ (n : Int) + 1 := by omega
    have q4 : (0 : Int) ≤ (n : Int) := by omega
    have q5 : ((n : Int) + 1).toNat = n + 1 := by omega
    have q6 : IntKind.i64.wrap ((n : Int) + 1) = (n : Int) + 1 := by rw [IntKind.wrap_i64]; omega
    clear h1 h3
    go_enter Try.func38, Try.ntmps38
    go_wp2_with (go_at_call 42; refine hix.mono ?_; rintro e w' ⟨rfl, rfl⟩)
    go_quiet (fail)
    go_wp2
    go_ret3
    exact ⟨rfl, Dr.of _ _⟩
/-- What a cut gives. -/
def cutV (l : Bs) (c : UInt8) : Value := match cut c l with | some (a, b) => .tuple #[.string (sv a), .string (sv b), .bool true] | none => .tuple #[.string (sv l), .string (sv []), .bool false]
theorem cut_any (l : Bs) (c : UInt8) (w : World) (hl : l.length ≤ 9223372036854775807) : Calls Try.prog 29 #[.string (sv l), .string ⟨#[c]⟩] w fun e w' => e = .returned (cutV l c) ∧ Dr w w' := by
  have hc := scut_any l c w hl
  unfold cutV
  rcases hq : cut c l with _ | ⟨a, b⟩
  all_goals
    rw [hq] at hc
    dsimp only at hc ⊢
    clear hq
    go_enter Try.func29, Try.ntmps29
    go_wp2_with (go_at_call 38; refine hc.mono ?_; rintro e w' ⟨rfl, hd⟩)
    have Hd := Lib.hid hd
    clear hd
    go_wp2
    go_ret3
    exact ⟨rfl, Hd.out⟩

/-- Who somebody is. -/
def who (l : Bs) : Option (Bs × Bs) := match cut 47 l with
  | some (a, b) => if nm a && nm b then some (a, b) else none
  | none => none
def whoV (l : Bs) : Value := match who l with | some (a, b) => .tuple #[.string (sv a), .string (sv b), .bool true] | none => .tuple #[.string (sv []), .string (sv []), .bool false]
theorem whoV_none {l : Bs} (h : cut 47 l = none) : whoV l = .tuple #[.string (sv []), .string (sv []), .bool false] := by unfold whoV who; rw [h]
theorem whoV_cut {l a b : Bs} (h : cut 47 l = some (a, b)) : whoV l = if nm a && nm b then .tuple #[.string (sv a), .string (sv b), .bool true] else .tuple #[.string (sv []), .string (sv []), .bool false] := by
  unfold whoV who
  rw [h]
  dsimp only
  cases nm a && nm b <;> rfl
theorem ret_val {a b : Value} (h : a = b) : Ending.returned a = .returned b := by rw [h]
set_option maxHeartbeats 800000 in
theorem who_any (l : Bs) (w : World) (hl : l.length ≤ 9223372036854775807) : Calls Try.prog 14 #[.string (sv l)] w fun e w' => e = .returned (whoV l) ∧ Mod (fun _ => False) w w' := by
  have hc := cut_any l 47 w hl
  unfold cutV at hc
  rcases hq : cut 47 l with _ | ⟨a, b⟩
  · rw [hq] at hc
    dsimp only at hc
    have Hv := Lib.hid (whoV_none hq)
    clear hq
    go_enter Try.func14, Try.ntmps14
    go_wp2_with (go_at_call 29; refine hc.mono ?_; rintro e w' ⟨rfl, hd⟩)
    have Hd : Hid (Mod (fun _ => False) w w') := Lib.hid hd.mod
    clear hd
    go_wp2
    go_ret3
    exact ⟨ret_val (by rw [Hv.out]; rfl), Hd.out⟩
  · rw [hq] at hc
    dsimp only at hc
    have Hv := Lib.hid (whoV_cut hq)
    clear hq
    go_enter Try.func14, Try.ntmps14
    go_wp2_with (fail)
    refine hc.mono ?_
    rintro e w1 ⟨rfl, hd⟩
    have Hd : Hid (Mod (fun _ => False) w w1) := Lib.hid hd.mod
    clear hd hc
    go_wp2_with (fail)
    refine (name_any a w1).mono ?_
    rintro e w2 ⟨rfl, hm2⟩
    have Hm2 := Lib.hid hm2
    clear hm2
    rcases ha : nm a with _ | _
    · have Hfin : Hid (Mod (fun _ => False) w w2) := Lib.hid (Hd.out.trans Hm2.out (fun _ h => h.elim))
      have Ha := Lib.hid ha
      clear ha
      go_wp2
      go_ret3
      exact ⟨ret_val (by rw [Hv.out, Ha.out]; rfl), Hfin.out⟩
    · have Ha := Lib.hid ha
      clear ha
      go_wp2_with (fail)
      refine (name_any b w2).mono ?_
      rintro e w3 ⟨rfl, hm3⟩
      have Hfin : Hid (Mod (fun _ => False) w w3) := Lib.hid ((Hd.out.trans Hm2.out (fun _ h => h.elim)).trans hm3 (fun _ h => h.elim))
      clear hm3
      rcases hb : nm b with _ | _
      all_goals
        have Hb := Lib.hid hb
        clear hb
        go_wp2
        go_ret3
        exact ⟨ret_val (by rw [Hv.out, Ha.out, Hb.out]; rfl), Hfin.out⟩
end Go.Proofs.Ytpbdcjgconopnaa
