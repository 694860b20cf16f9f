/-
  A scan's text, gap, name.
-/
import Derived.Test.YtkmidilaabgooaaDoorCb
namespace Go.Proofs.YtkmidilaabgooaaDoor
open Go.RowKit Mem
set_option linter.unusedVariables false
set_option linter.unusedSimpArgs false

theorem cutPrefix_any (t l : Bs) (w : World) : Calls Tryd.prog 26 #[.string (sv l), .string (sv t)] w fun e w' =>
    e = .returned (.tuple #[.string (sv (if t.isPrefixOf l then l.drop t.length else l)), .bool (t.isPrefixOf l)]) ∧ w = w' := by
  have h := Tryd.strings_CutPrefix (sv l) (sv t) w
  rw [sv_list, sv_list] at h
  exact h.mono fun e w' ⟨h1, h2⟩ => ⟨h1, h2.symm⟩
set_option maxHeartbeats 800000 in
/-- A text that comes next, or not. -/
theorem text_any (g : Nat) (t l : Bs) (w : World) (hS : Scn w g l) :
    Calls Tryd.prog 38 #[.pointer (some ⟨g, 0, none⟩), .string (sv t)] w fun e w' => e = .returned (.bool (t.isPrefixOf l)) ∧ Did w w' g (if t.isPrefixOf l then l.drop t.length else l) := by
  have hc := hS.cell
  have hf := hS.frozen
  have hfin : Hid (Did w (w.setCell ⟨g, 0, none⟩ (.string (sv (if t.isPrefixOf l then l.drop t.length else l)))) g (if t.isPrefixOf l then l.drop t.length else l)) := Lib.hid (Did.set (Did.of hS))
  have hcp := cutPrefix_any t l
  obtain ⟨m, hm⟩ : ∃ m, (if t.isPrefixOf l then l.drop t.length else l) = m := ⟨_, rfl⟩
  obtain ⟨b, hb⟩ : ∃ b, t.isPrefixOf l = b := ⟨_, rfl⟩
  rw [hm] at hfin hcp ⊢
  rw [hb] at hcp ⊢
  clear hm hb hS
  go_enter Tryd.func38, Tryd.ntmps38
  go_wp2_with (fail)
  refine (hcp _).mono ?_
  rintro e w' ⟨rfl, rfl⟩
  go_wp2
  go_ret
  exact ⟨rfl, hfin.out⟩
/-- Does a byte stand there? -/
theorem text_b {g : Nat} {t l : Bs} {w : World} {b : Bool} {m : Bs} (hS : Scn w g l) (hb : t.isPrefixOf l = b) (hm : (if t.isPrefixOf l then l.drop t.length else l) = m) :
    Calls Tryd.prog 38 #[.pointer (some ⟨g, 0, none⟩), .string (sv t)] w fun e w' => e = .returned (.bool b) ∧ Did w w' g m := by
  subst hb hm; exact text_any g t l w hS
theorem some_n {g : Nat} {p q : Bool} {o l : Bs} {w : World} {n : Nat} {m : Bs} (hS : Scn w g l) (hl : l.length ≤ 9223372036854775807) (hn : (l.takeWhile (isB p q o)).length = n) (hm : l.dropWhile (isB p q o) = m) :
    Calls Tryd.prog 31 #[.pointer (some ⟨g, 0, none⟩), .bool p, .bool q, .string (sv o)] w fun e w' => e = .returned (.int .i64 n) ∧ Did w w' g m := by
  subst hn hm; exact some_any g p q o l w hS hl
theorem tw_dw_len (p : UInt8 → Bool) (l : Bs) : (l.takeWhile p).length + (l.dropWhile p).length = l.length := by
  have := congrArg List.length (tw_split p l)
  rw [List.length_append] at this
  exact this
/-- How many bytes a gap has. -/
def gapN (l : Bs) : Nat := l.length - (gapF l).length
theorem gapF_nl {l r : Bs} (h : l.dropWhile bt = 10 :: r) : gapF l = r.dropWhile bt := by
  unfold gapF; rw [h]; rfl
theorem gapF_no {l m : Bs} (h : l.dropWhile bt = m) (hn : [10].isPrefixOf m = false) : gapF l = m := by
  unfold gapF
  rw [h]
  cases m with
  | nil => rfl
  | cons c r =>
    have : (c == 10) = false := by
      rw [beq_eq_false_iff_ne]; rintro rfl; simp [List.isPrefixOf] at hn
    dsimp only
    rw [this]; rfl
set_option maxHeartbeats 800000 in
theorem gap_any (g : Nat) (l : Bs) (w : World) (hS : Scn w g l) (hl : l.length ≤ 9223372036854775807) :
    Calls Tryd.prog 40 #[.pointer (some ⟨g, 0, none⟩)] w fun e w' => e = .returned (.int .i64 (gapN l : Nat)) ∧ Did w w' g (gapF l) := by
  obtain ⟨n, hn⟩ : ∃ n, (l.takeWhile bt).length = n := ⟨_, rfl⟩
  obtain ⟨m, hm⟩ : ∃ m, l.dropWhile bt = m := ⟨_, rfl⟩
  have hlen := tw_dw_len bt l
  rw [hn, hm] at hlen
  have hsome : Hid _ := Lib.hid (some_n (o := [32, 9]) hS hl hn hm)
  rcases hp : [10].isPrefixOf m with _ | _
  · have HF : Hid (gapF l = m ∧ gapN l = n) := Lib.hid ⟨gapF_no hm hp, by unfold gapN; rw [gapF_no hm hp]; omega⟩
    have hms : Hid ((if [10].isPrefixOf m then m.drop ([10] : Bs).length else m) = m) := Lib.hid (by rw [hp]; rfl)
    have HP := Lib.hid hp
    clear hn hm hp hS
    go_enter Tryd.func40, Tryd.ntmps40
    go_wp2_with (fail)
    refine hsome.out.mono ?_
    rintro e w1 ⟨rfl, hD⟩
    have HD := Lib.hid hD
    clear hD hsome
    go_wp2_with (fail)
    refine (text_b (t := [10]) HD.out.s HP.out hms.out).mono ?_
    rintro e w2 ⟨rfl, hD2⟩
    have HD2 := Lib.hid (HD.out.trans hD2)
    clear hD2 hms HP HD
    go_wp2
    go_ret
    exact ⟨ret_int (by rw [HF.out.2]), by rw [HF.out.1]; exact HD2.out⟩
  · have hsp := pre_split hp
    obtain ⟨r, hr⟩ : ∃ r, m.drop ([10] : Bs).length = r := ⟨_, rfl⟩
    rw [hr] at hsp
    have hsp' : m = 10 :: r := hsp
    obtain ⟨n2, hn2⟩ : ∃ n, (r.takeWhile bt).length = n := ⟨_, rfl⟩
    obtain ⟨m2, hm2⟩ : ∃ m, r.dropWhile bt = m := ⟨_, rfl⟩
    have hlen2 := tw_dw_len bt r
    rw [hn2, hm2] at hlen2
    have hml : m.length = r.length + 1 := by rw [hsp']; rfl
    have HF : Hid (gapF l = m2 ∧ gapN l = n + (1 + n2)) := Lib.hid (by
      have e := gapF_nl (hm.trans hsp')
      rw [hm2] at e
      exact ⟨e, by unfold gapN; rw [e]; omega⟩)
    have hms : Hid ((if [10].isPrefixOf m then m.drop ([10] : Bs).length else m) = r) := Lib.hid (by rw [hp, if_pos rfl, hr])
    have hsome2 : Hid ((r.takeWhile bt).length = n2 ∧ r.dropWhile bt = m2) := Lib.hid ⟨hn2, hm2⟩
    have hrl : r.length ≤ 9223372036854775807 := by omega
    have HRL := Lib.hid hrl
    have HP := Lib.hid hp
    have hb1 : n + n2 + 1 ≤ 9223372036854775807 := by omega
    clear hn hm hp hS hsp hsp' hr hn2 hm2 hml hlen hlen2
    go_enter Tryd.func40, Tryd.ntmps40
    go_wp2_with (fail)
    refine hsome.out.mono ?_
    rintro e w1 ⟨rfl, hD⟩
    have HD := Lib.hid hD
    clear hD hsome
    go_wp2_with (fail)
    refine (text_b (t := [10]) HD.out.s HP.out hms.out).mono ?_
    rintro e w2 ⟨rfl, hD2⟩
    have HD2 := Lib.hid (HD.out.trans hD2)
    clear hD2 hms HP HD
    go_wp2_with (fail)
    refine (some_n (o := [32, 9]) HD2.out.s HRL.out hsome2.out.1 hsome2.out.2).mono ?_
    rintro e w3 ⟨rfl, hD3⟩
    have HD3 := Lib.hid (HD2.out.trans hD3)
    clear hD3 HD2
    go_wp2
    go_ret
    exact ⟨ret_int (by rw [HF.out.2]; omega), by rw [HF.out.1]; exact HD3.out⟩
theorem nameB_of {c : UInt8} (h : isB true false [] c = true) : nameB c = true := by
  have h' : ltr c = true := by simpa [isB] using h
  simp [isB, h']
set_option maxHeartbeats 800000 in
theorem name_any (g : Nat) (l : Bs) (w : World) (hS : Scn w g l) (hl : l.length ≤ 9223372036854775807) :
    Calls Tryd.prog 39 #[.pointer (some ⟨g, 0, none⟩)] w fun e w' => e = .returned (.bool (nameF l).isSome) ∧ Did w w' g ((nameF l).getD l) := by
  have hc := hS.cell
  have HS := Lib.hid hS
  have hsz := sv_size l
  have htl := sv_toList l
  cases l with
  | nil =>
    clear hS
    go_enter Tryd.func39, Tryd.ntmps39
    go_wp2
    go_ret
    exact ⟨rfl, Did.of HS.out⟩
  | cons c l =>
    have hb0 : ∀ h, (sv (c :: l))[0]'h = c := fun _ => rfl
    rcases hB : isB true false [] c with _ | _
    · have hi := is_any c true false []
      rw [hB] at hi
      have HF : Hid (nameF (c :: l) = none) := Lib.hid (by show (if isB true false [] c then _ else none) = none; rw [hB]; rfl)
      clear hB hS
      go_enter Tryd.func39, Tryd.ntmps39
      go_wp2_with (fail)
      refine (hi _).mono ?_
      rintro e w' ⟨rfl, rfl⟩
      go_wp2
      go_ret
      rw [HF.out]
      exact ⟨rfl, Did.of HS.out⟩
    · have hi := is_any c true false []
      rw [hB] at hi
      have HF : Hid (nameF (c :: l) = some ((c :: l).dropWhile nameB)) := Lib.hid (by show (if isB true false [] c then _ else none) = _; rw [hB]; rfl)
      have hn : 0 < ((c :: l).takeWhile nameB).length := by
        rw [List.takeWhile_cons, if_pos (nameB_of hB)]; exact Nat.succ_pos _
      obtain ⟨n, hn'⟩ : ∃ n, ((c :: l).takeWhile nameB).length = n := ⟨_, rfl⟩
      rw [hn'] at hn
      obtain ⟨m, hm⟩ : ∃ m, (c :: l).dropWhile nameB = m := ⟨_, rfl⟩
      have hsome : Hid _ := Lib.hid (some_n (o := [45]) hS hl hn' hm)
      rw [hm] at HF
      have hn0 : (0 : Int) < n := by omega
      clear hB hS hn' hm hl
      go_enter Tryd.func39, Tryd.ntmps39
      go_wp2_with (fail)
      refine (hi _).mono ?_
      rintro e w' ⟨rfl, rfl⟩
      go_wp2_with (fail)
      refine hsome.out.mono ?_
      rintro e w1 ⟨rfl, hD⟩
      have HD := Lib.hid hD
      clear hD hsome
      go_wp2
      go_ret
      rw [HF.out]
      exact ⟨rfl, HD.out⟩
end Go.Proofs.YtkmidilaabgooaaDoor
