/-
  The short calls: named, of, Up, Falls, Start, Arm, New, Read, Files.
-/
import Derived.Test.YtoceddcppbddnaaDh
namespace Go.Proofs.Ytoceddcppbddnaa
open Go.RowKit Mem Go.Maps
set_option linter.unusedVariables false
set_option linter.unusedSimpArgs false

theorem named_any (n : Bs) (w : World) (hn : n.length ≤ maxLen) : Calls Try.prog 27 #[.string (sv n)] w fun e w' => e = .returned (.bool (nmA n)) ∧ w = w' := by
  have hsz := sv_size n
  have HL := Lib.hid hn
  have hn2 : (n.length : Int) ≤ 9223372036854775807 := by unfold maxLen at hn; omega
  clear hn
  by_cases h0 : n.length = 0
  · have hnil : n = [] := List.eq_nil_of_length_eq_zero h0
    subst hnil
    have heq : (sv []).toList.isEmpty = true := by rw [sv_toList]; rfl
    go_enter Try.func27, Try.ntmps27
    go_wp2
    go_ret
    exact ⟨rfl, rfl⟩
  · have heq : (sv n).toList.isEmpty = false := by rw [sv_toList, List.isEmpty_eq_false_iff]; rintro rfl; exact h0 rfl
    by_cases h1 : n.length ≤ 32
    · have q : (n.length : Int) ≤ 32 := by omega
      have HR : Hid (nmA n = true) := Lib.hid (by unfold nmA; rw [decide_eq_true h0, decide_eq_true h1]; rfl)
      clear h0 h1
      go_enter Try.func27, Try.ntmps27
      go_wp2
      go_ret
      exact ⟨ret_bool (by rw [HR.out]), rfl⟩
    · have q : ¬ (n.length : Int) ≤ 32 := by omega
      have HR : Hid (nmA n = false) := Lib.hid (by unfold nmA; rw [decide_eq_false h1, Bool.and_false])
      clear h0 h1
      go_enter Try.func27, Try.ntmps27
      go_wp2
      go_ret
      exact ⟨ret_bool (by rw [HR.out]), rfl⟩
theorem named_b {n : Bs} {b : Bool} (h : nmA n = b) (hn : n.length ≤ maxLen) (w : World) : Calls Try.prog 27 #[.string (sv n)] w fun e w' => e = .returned (.bool b) ∧ w = w' := by subst h; exact named_any n w hn
/-- What of answers. -/
def ofVal (off : Bool) (o : Option Fr) : Value := if off then .tuple #[.pointer none, .int .i64 13] else match o with
  | none => .tuple #[.pointer none, .int .i64 15]
  | some f => .tuple #[.pointer (some ⟨f.g, 0, none⟩), .int .i64 0]
def ofV (X : Dk) (n : Bs) : Value := ofVal X.off (fndF X.L n)
set_option maxHeartbeats 800000 in
theorem of_any (w : World) (d : Nat) (X : Dk) (n : Bs) (h : At w d X) (hn : n.length ≤ maxLen) : Calls Try.prog 30 #[.pointer (some ⟨d, 0, none⟩), .string (sv n)] w fun e w' => e = .returned (ofV X n) ∧ w = w' := by
  have hlook := h.map.look_ok hn
  have hc1 : w.cell? ⟨d, 1, none⟩ = some (.map (some X.mb)) := h.cell 1
  have hc2 : w.cell? ⟨d, 2, none⟩ = some (.bool X.off) := h.cell 2
  obtain ⟨off, hoff⟩ : ∃ o, X.off = o := ⟨_, rfl⟩
  obtain ⟨o, ho⟩ : ∃ o, fndF X.L n = o := ⟨_, rfl⟩
  have hV : ofV X n = ofVal off o := by unfold ofV; rw [hoff, ho]
  have HV := Lib.hid hV
  rw [hoff] at hc2
  rw [ho] at hlook
  clear hoff ho hV h
  cases o with
  | none =>
    have hl : (Instr.lookup 53 (.map (some X.mb)) (.string (sv n)) true).run Try.prog w = .ok (.tuple #[.pointer none, .bool false]) w := hlook
    clear hlook
    cases off with
    | true =>
      go_enter Try.func30, Try.ntmps30
      go_wp2
      go_ret2
      exact ⟨ret_val (by rw [HV.out]; rfl), rfl⟩
    | false =>
      go_enter Try.func30, Try.ntmps30
      go_wp2
      go_ret2
      exact ⟨ret_val (by rw [HV.out]; rfl), rfl⟩
  | some f =>
    have hl : (Instr.lookup 53 (.map (some X.mb)) (.string (sv n)) true).run Try.prog w = .ok (.tuple #[.pointer (some ⟨f.g, 0, none⟩), .bool true]) w := hlook
    clear hlook
    cases off with
    | true =>
      go_enter Try.func30, Try.ntmps30
      go_wp2
      go_ret2
      exact ⟨ret_val (by rw [HV.out]; rfl), rfl⟩
    | false =>
      go_enter Try.func30, Try.ntmps30
      go_wp2
      go_ret2
      exact ⟨ret_val (by rw [HV.out]; rfl), rfl⟩
theorem of_v {w : World} {d : Nat} {X : Dk} {n : Bs} {v : Value} (h : At w d X) (hn : n.length ≤ maxLen) (hv : ofV X n = v) : Calls Try.prog 30 #[.pointer (some ⟨d, 0, none⟩), .string (sv n)] w fun e w' => e = .returned v ∧ w = w' := by subst hv; exact of_any w d X n h hn
theorem up_any (w : World) (d : Nat) (X : Dk) (h : At w d X) : Calls Try.prog 21 #[.pointer (some ⟨d, 0, none⟩)] w fun e w' => e = .returned (.bool (!X.off)) ∧ w = w' := by
  have hc2 : w.cell? ⟨d, 2, none⟩ = some (.bool X.off) := h.cell 2
  clear h
  go_enter Try.func21, Try.ntmps21
  go_wp2
  go_ret
  exact ⟨rfl, rfl⟩
theorem falls_any (w : World) (d : Nat) (X : Dk) (h : At w d X) : Calls Try.prog 17 #[.pointer (some ⟨d, 0, none⟩)] w fun e w' => e = .returned (.int .i64 X.falls) ∧ w = w' := by
  have hc2 : w.cell? ⟨d, 4, none⟩ = some (.int .i64 X.falls) := h.cell 4
  clear h
  go_enter Try.func17, Try.ntmps17
  go_wp2
  go_ret
  exact ⟨rfl, rfl⟩
def startX (X : Dk) : Dk := ⟨X.room, X.L, false, none, X.falls, X.mb⟩
theorem abs_start (X : Dk) : abs (startX X) = startA (abs X) := rfl
theorem start_any (w : World) (d : Nat) (X : Dk) (h : At w d X) : Calls Try.prog 15 #[.pointer (some ⟨d, 0, none⟩)] w fun e w' => e = .returned (.tuple #[]) ∧ Done w w' d X (startX X) := by
  have hc2 : w.cell? ⟨d, 2, none⟩ = some (.bool X.off) := h.cell 2
  have hc3 : w.cell? ⟨d, 3, none⟩ = some (.pointer (X.fuse.map fun f => ⟨f.1, 0, none⟩)) := h.cell 3
  have hf2 := h.free 2
  have hf3 := h.free 3
  have H := Lib.hid h
  clear h
  go_enter Try.func15, Try.ntmps15
  go_wp2
  go_end0
  refine ⟨rfl, H.out.cells (X' := startX X) rfl rfl ?_ ?_ ?_ H.out.room H.out.falls⟩
  · exact (H.out.disk.set 2 (.bool false)).set 3 (.pointer none)
  · exact Mod.setCell (S := (· = d)) (Mod.setCell (S := (· = d)) (Mod.refl _ w) (p := ⟨d, 2, none⟩) (.inl rfl) _) (p := ⟨d, 3, none⟩) (.inl rfl) _
  · intro g a k hk
    cases hk
set_option maxHeartbeats 800000 in
theorem read_any (w : World) (d : Nat) (X : Dk) (n : Bs) (h : At w d X) (hn : n.length ≤ maxLen) : Calls Try.prog 14 #[.pointer (some ⟨d, 0, none⟩), .string (sv n)] w fun e w' => Mod (fun _ => False) w w' ∧
    match (if X.off then none else fndF X.L n) with
    | none => e = .returned (.tuple #[.slice none 0 0, .int .i64 (if X.off then 13 else 15)])
    | some f => ∃ v, e = .returned (.tuple #[v, .int .i64 0]) ∧ w'.ownsRow w.heap.size 5 1 v f.b.length (bts f.b) := by
  obtain ⟨off, hoff⟩ : ∃ o, X.off = o := ⟨_, rfl⟩
  obtain ⟨o, ho⟩ : ∃ o, fndF X.L n = o := ⟨_, rfl⟩
  have hV : ofV X n = ofVal off o := by unfold ofV; rw [hoff, ho]
  rw [hoff, ho]
  cases off with
  | true =>
    have hof := of_v h hn (v := .tuple #[.pointer none, .int .i64 13]) hV
    clear h hoff ho hV
    go_enter Try.func14, Try.ntmps14
    go_wp2_with (fail)
    refine hof.mono ?_
    rintro e w' ⟨rfl, rfl⟩
    go_wp2
    go_ret2
    exact ⟨Mod.refl _ _, rfl⟩
  | false =>
    cases o with
    | none =>
      have hof := of_v h hn (v := .tuple #[.pointer none, .int .i64 15]) hV
      clear h hoff ho hV
      go_enter Try.func14, Try.ntmps14
      go_wp2_with (fail)
      refine hof.mono ?_
      rintro e w' ⟨rfl, rfl⟩
      go_wp2
      go_ret2
      exact ⟨Mod.refl _ _, rfl⟩
    | some f =>
      have hof := of_v h hn (v := .tuple #[.pointer (some ⟨f.g, 0, none⟩), .int .i64 0]) hV
      have hF := h.files f (fnd_some ho).1
      have hcf : w.cell? ⟨f.g, 0, none⟩ = some f.v := by rw [hF.blk.cell]; rfl
      have hcl := clone_rd w f.v f.b hF.fb.rd (by have := hF.len; omega)
      clear h hoff ho hV hF
      go_enter Try.func14, Try.ntmps14
      go_wp2_with (fail)
      refine hof.mono ?_
      rintro e w' ⟨rfl, rfl⟩
      go_wp2_with (fail)
      refine hcl.mono ?_
      rintro e w' ⟨v, rfl, hrow, hm⟩
      have HR := Lib.hid hrow
      have HM := Lib.hid hm
      clear hrow hm hof hcl
      go_wp2
      go_ret2
      exact ⟨HM.out, v, rfl, HR.out⟩
/-- Arm. -/
def armX (X : Dk) (g : Nat) (a : Int) (k : Nat) : Dk := if X.off then X else ⟨X.room, X.L, X.off, if 0 ≤ a then some (g, a, k) else none, X.falls, X.mb⟩
theorem abs_arm (X : Dk) (g : Nat) (a : Int) (k : Nat) : abs (armX X g a k) = armA (abs X) a k := by
  unfold armX armA
  have e : (abs X).off = X.off := rfl
  rw [e]
  split
  · rfl
  · unfold abs
    dsimp only
    split <;> rfl
set_option maxHeartbeats 800000 in
theorem arm_any (w : World) (d : Nat) (X : Dk) (a : Int) (k : Nat) (h : At w d X) (ha : -9223372036854775808 ≤ a ∧ a ≤ 9223372036854775807) (hk : k < 18446744073709551616) : Calls Try.prog 20 #[.pointer (some ⟨d, 0, none⟩), .int .i64 a, .int .u64 (k : Int)] w fun e w' => e = .returned (.tuple #[]) ∧ ∃ g, Done w w' d X (armX X g a k) := by
  have hc2 : w.cell? ⟨d, 2, none⟩ = some (.bool X.off) := h.cell 2
  have hc3 : w.cell? ⟨d, 3, none⟩ = some (.pointer (X.fuse.map fun f => ⟨f.1, 0, none⟩)) := h.cell 3
  have hf3 := h.free 3
  have H := Lib.hid h
  obtain ⟨off, hoff⟩ : ∃ o, X.off = o := ⟨_, rfl⟩
  rw [hoff] at hc2
  clear h
  cases off with
  | true =>
    have HX : Hid (∀ g, armX X g a k = X) := Lib.hid (fun g => by unfold armX; rw [hoff]; rfl)
    clear hoff
    go_enter Try.func20, Try.ntmps20
    go_wp2
    refine bodyPost_ret (results_none rfl _ _ _) rfl ?_
    exact ⟨rfl, 0, by rw [HX.out]; exact Done.refl H.out⟩
  | false =>
    have hm1 : Mod (· = d) w (w.setCell ⟨d, 3, none⟩ (.pointer none)) := Mod.setCell (S := (· = d)) (Mod.refl _ w) (p := ⟨d, 3, none⟩) (.inl rfl) _
    by_cases h0 : 0 ≤ a
    · have HX : Hid (∀ g, armX X g a k = ⟨X.room, X.L, X.off, some (g, a, k), X.falls, X.mb⟩) := Lib.hid (fun g => by unfold armX; rw [hoff, if_pos h0]; rfl)
      clear hoff
      have hB2 := (H.out.disk.set 3 (.pointer none)).alloc (.cells #[.int .i64 a, .int .u64 (k : Int)] 67)
      have hs1 := hB2.cell 3
      have hs1' : ((w.setCell ⟨d, 3, none⟩ (.pointer none)).alloc (.cells #[.int .i64 a, .int .u64 (k : Int)] 67)).cell? ⟨d, 3, none⟩ = some (.pointer none) := hs1
      have hs2 := hB2.frozen 3
      clear hs1
      have HB2 := Lib.hid hB2
      have HM1 := Lib.hid hm1
      clear hB2 hm1
      go_enter Try.func20, Try.ntmps20
      go_wp2
      go_end0
      refine ⟨rfl, w.heap.size, ?_⟩
      rw [HX.out]
      refine H.out.cells rfl rfl ?_ ?_ ?_ H.out.room H.out.falls
      · have := HB2.out.set 3 (.pointer (some ⟨w.heap.size, 0, none⟩))
        exact this
      · exact Mod.setCell (S := (· = d)) (HM1.out.alloc _) (p := ⟨d, 3, none⟩) (.inl rfl) _
      · intro g' a' k' hk'
        right
        injection hk' with hk'
        injection hk' with e1 e2
        injection e2 with e2 e3
        subst e1 e2 e3
        refine ⟨?_, ⟨h0, ha.2, hk⟩, Nat.le_refl _⟩
        have hb : Blk ((w.setCell ⟨d, 3, none⟩ (.pointer none)).alloc (.cells #[.int .i64 a, .int .u64 (k : Int)] 67)) w.heap.size #[.int .i64 a, .int .u64 (k : Int)] 67 := by
          have := Blk.new (w.setCell ⟨d, 3, none⟩ (.pointer none)) #[.int .i64 a, .int .u64 (k : Int)] 67
          simpa [World.setCell] using this
        exact hb.far (fun e => by have := H.out.disk.lt; have e : w.heap.size = d := e; omega) _
    · have HX : Hid (∀ g, armX X g a k = ⟨X.room, X.L, X.off, none, X.falls, X.mb⟩) := Lib.hid (fun g => by unfold armX; rw [hoff, if_neg h0]; rfl)
      clear hoff
      go_enter Try.func20, Try.ntmps20
      go_wp2
      go_end0
      refine ⟨rfl, 0, ?_⟩
      rw [HX.out]
      refine H.out.cells rfl rfl ?_ hm1 ?_ H.out.room H.out.falls
      · exact H.out.disk.set 3 (.pointer none)
      · intro g a k hk
        cases hk
end Go.Proofs.Ytoceddcppbddnaa
