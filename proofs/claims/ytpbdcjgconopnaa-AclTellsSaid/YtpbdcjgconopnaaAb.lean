/-
  acl's grants: fine, compare.
-/
import Derived.Test.YtpbdcjgconopnaaAa
namespace Go.Proofs.Ytpbdcjgconopnaa
open Go.RowKit Mem
set_option linter.unusedVariables false

/-- A grant. -/
structure Gr where
  t : Bs
  w : Bs
  r : Int
deriving DecidableEq
def gcells (g : Gr) : List Value := [.string (sv g.t), .string (sv g.w), .int .i64 g.r]
def gval (g : Gr) : Value := .agg #[.string (sv g.t), .string (sv g.w), .int .i64 g.r]
/-- Its texts are no longer than Go's. -/
def Gok (g : Gr) : Prop := g.t.length ≤ 9223372036854775807 ∧ g.w.length ≤ 9223372036854775807 ∧ -9223372036854775808 ≤ g.r ∧ g.r ≤ 9223372036854775807
/-- May it be, but for its right? -/
def fineB (g : Gr) : Bool := match who g.w with
  | some (t, _) => nm g.t && !(t == g.t)
  | none => false

set_option maxHeartbeats 1600000 in
theorem fine_any (g : Gr) (w : World) (hg : Gok g) : Calls Try.prog 21 #[gval g] w fun e w' => e = .returned (.bool (fineB g)) ∧ Mod (fun _ => False) w w' := by
  have hal : Mod (fun _ => False) w (w.alloc (.cells #[.string (sv g.t), .string (sv g.w), .int .i64 g.r] 24)) := (Mod.refl _ _).alloc _
  have hbl := Blk.new w #[.string (sv g.t), .string (sv g.w), .int .i64 g.r] 24
  have hw := who_any g.w (w.alloc (.cells #[.string (sv g.t), .string (sv g.w), .int .i64 g.r] 24)) hg.2.1
  have Hal := Lib.hid hal
  have Hbl := Lib.hid hbl
  have Hw := Lib.hid hw
  clear hal hbl hw
  unfold gval
  rcases hq : who g.w with _ | ⟨a, b⟩
  · have hv : whoV g.w = .tuple #[.string (sv []), .string (sv []), .bool false] := by unfold whoV; rw [hq]
    have hf : fineB g = false := by unfold fineB; rw [hq]
    have Hf := Lib.hid hf
    have Hv := Lib.hid hv
    clear hf hq hv
    go_enter Try.func21, Try.ntmps21
    go_wp2_with (fail)
    refine Hw.out.mono ?_
    rintro e w1 ⟨rfl, hm⟩
    rw [Hv.out]
    have Hfin : Hid (Mod (fun _ => False) w w1) := Lib.hid (Hal.out.trans hm (fun _ h => h.elim))
    clear hm
    go_wp2
    go_ret
    exact ⟨ret_bool Hf.out.symm, Hfin.out⟩
  · have hv : whoV g.w = .tuple #[.string (sv a), .string (sv b), .bool true] := by unfold whoV; rw [hq]
    have hf : fineB g = (nm g.t && !(a == g.t)) := by unfold fineB; rw [hq]
    have Hf := Lib.hid hf
    have Hv := Lib.hid hv
    clear hf hq hv
    go_enter Try.func21, Try.ntmps21
    go_wp2_with (fail)
    refine Hw.out.mono ?_
    rintro e w1 ⟨rfl, hm⟩
    rw [Hv.out]
    have c0 : w1.cell? ⟨w.heap.size, 0, none⟩ = some (.string (sv g.t)) := cell_keep hm (Hbl.out.cell 0) (fun h => h)
    have Hm := Lib.hid hm
    clear hm
    go_wp2_with (fail)
    refine (name_any g.t w1).mono ?_
    rintro e w2 ⟨rfl, hm2⟩
    have c2 : w2.cell? ⟨w.heap.size, 0, none⟩ = some (.string (sv g.t)) := cell_keep hm2 c0 (fun h => h)
    have Hfin : Hid (Mod (fun _ => False) w w2) := Lib.hid ((Hal.out.trans Hm.out (fun _ h => h.elim)).trans hm2 (fun _ h => h.elim))
    clear hm2 c0
    have hbq := sv_beq a g.t
    have hne : ((sv a).toList != (sv g.t).toList) = !(a == g.t) := by unfold bne; rw [hbq]
    rcases hn : nm g.t with _ | _
    all_goals
      have Hn := Lib.hid hn
      clear hn
      go_wp2
      go_ret
      exact ⟨ret_bool (by rw [Hf.out, Hn.out]; simp), Hfin.out⟩

/-- The first that is not zero. -/
def or2 (x y : Int) : Int := if x = 0 then y else x
set_option maxHeartbeats 800000 in
theorem or2_any (g : Nat) (x y : Int) (w : World) (h : Blk w g #[.int .i64 x, .int .i64 y] 3) : Calls Try.prog 33 #[.slice (some ⟨g, 0, none⟩) 2 2] w fun e w' => e = .returned (.int .i64 (or2 x y)) ∧ w = w' := by
  have hor : (x = 0 → or2 x y = y) ∧ (¬ x = 0 → or2 x y = x) := ⟨fun h => if_pos h, fun h => if_neg h⟩
  have Hor := Lib.hid hor
  clear hor
  have c0 : w.cell? ⟨g, 0, none⟩ = some (.int .i64 x) := h.cell 0
  have c1 : w.cell? ⟨g, 1, none⟩ = some (.int .i64 y) := h.cell 1
  clear h
  go_enter Try.func33, Try.ntmps33
  go_wp2
  go_loop [8] (fun i => i = .int .i64 0 ∨ (i = .int .i64 1 ∧ x = 0) ∨ (i = .int .i64 2 ∧ x = 0 ∧ y = 0)) (fun i => 2 - (intOf i).toNat)
  case atStart => exact .inl rfl
  case round =>
    rcases hrel with rfl | ⟨rfl, hx⟩ | ⟨rfl, hx, hy⟩
    · by_cases hx : x = 0
      · subst hx
        go_wp2
        go_round
        case rel => exact .inr (.inl (by simp))
        case measure => simp [intOf]
      · go_wp2
        go_ret
        exact ⟨ret_int (Hor.out.2 hx).symm, rfl⟩
    · subst hx
      by_cases hy : y = 0
      · subst hy
        go_wp2
        go_round
        case rel => exact .inr (.inr (by simp))
        case measure => simp [intOf]
      · go_wp2
        go_ret
        exact ⟨ret_int (Hor.out.1 trivial).symm, rfl⟩
    · subst hx hy
      go_wp2
      go_ret
      exact ⟨ret_int (Hor.out.1 trivial).symm, rfl⟩
def cmpG (a b : Gr) : Int := or2 (Lib.compareBytes a.t b.t) (Lib.compareBytes a.w b.w)
set_option maxHeartbeats 1600000 in
theorem cmp_any (a b : Gr) (w : World) : Calls Try.prog 24 #[gval a, gval b] w fun e w' => e = .returned (.int .i64 (cmpG a b)) ∧ Mod (fun _ => False) w w' := by
  unfold gval cmpG
  have ht := fun w => Try.strings_Compare (sv a.t) (sv b.t) w
  have hww := fun w => Try.strings_Compare (sv a.w) (sv b.w) w
  rw [sv_list, sv_list] at ht hww
  generalize Lib.compareBytes a.t b.t = x at *
  generalize Lib.compareBytes a.w b.w = y at *
  have Ht := Lib.hid ht
  have Hw := Lib.hid hww
  clear ht hww
  have hb1 : Blk ((w.alloc (.cells #[.string (sv a.t), .string (sv a.w), .int .i64 a.r] 24)).alloc (.cells #[.string (sv b.t), .string (sv b.w), .int .i64 b.r] 24)) w.heap.size #[.string (sv a.t), .string (sv a.w), .int .i64 a.r] 24 := (Blk.new w _ 24).alloc _
  have hb2 : Blk ((w.alloc (.cells #[.string (sv a.t), .string (sv a.w), .int .i64 a.r] 24)).alloc (.cells #[.string (sv b.t), .string (sv b.w), .int .i64 b.r] 24)) (w.heap.size + 1) #[.string (sv b.t), .string (sv b.w), .int .i64 b.r] 24 := by
    have := Blk.new (w.alloc (.cells #[.string (sv a.t), .string (sv a.w), .int .i64 a.r] 24)) #[.string (sv b.t), .string (sv b.w), .int .i64 b.r] 24
    simpa using this
  have hmw : Mod (fun _ => False) w ((w.alloc (.cells #[.string (sv a.t), .string (sv a.w), .int .i64 a.r] 24)).alloc (.cells #[.string (sv b.t), .string (sv b.w), .int .i64 b.r] 24)) := ((Mod.refl _ _).alloc _).alloc _
  have H1 := Lib.hid hb1
  have H2 := Lib.hid hb2
  have H3 := Lib.hid hmw
  clear hb1 hb2 hmw
  go_enter Try.func24, Try.ntmps24
  go_wp2
  obtain ⟨p, hp⟩ : ∃ p, w.heap.size = p := ⟨_, rfl⟩
  rw [hp] at H1 H2 ⊢
  have HP := Lib.hid hp
  clear hp
  generalize (w.alloc (.cells #[.string (sv a.t), .string (sv a.w), .int .i64 a.r] 24)).alloc (.cells #[.string (sv b.t), .string (sv b.w), .int .i64 b.r] 24) = W at *
  have e0 : W.cell? ⟨p, 0, none⟩ = some (.string (sv a.t)) := H1.out.cell 0
  have e1 : W.cell? ⟨p, 1, none⟩ = some (.string (sv a.w)) := H1.out.cell 1
  have f0 : W.cell? ⟨p + 1, 0, none⟩ = some (.string (sv b.t)) := H2.out.cell 0
  have f1 : W.cell? ⟨p + 1, 1, none⟩ = some (.string (sv b.w)) := H2.out.cell 1
  have HN := Lib.hid (Blk.new W #[.int .i64 x, .int .i64 y] 3).drew
  go_region_held3 (fun w' => w'.cell? ⟨p, 0, none⟩ = some (.string (sv a.t)) ∧ w'.cell? ⟨p, 1, none⟩ = some (.string (sv a.w)) ∧ w'.cell? ⟨p + 1, 0, none⟩ = some (.string (sv b.t)) ∧ w'.cell? ⟨p + 1, 1, none⟩ = some (.string (sv b.w)))
    (first | exact ⟨e0, e1, f0, f1⟩ | go_keep)
    (first
      | (go_at_call 34; ((with_reducible refine (Ht.out _).mono ?_); rintro e w' ⟨rfl, rfl⟩))
      | (go_at_call 34; ((with_reducible refine (Hw.out _).mono ?_); rintro e w' ⟨rfl, rfl⟩))
      | (go_at_call 33; (refine (or2_any _ x y _ HN.out).mono ?_); rintro e w' ⟨rfl, rfl⟩))
  all_goals
    have Hfin : Hid (Mod (fun _ => False) w (W.alloc (.cells #[.int .i64 x, .int .i64 y] 3)).drew) := Lib.hid (H3.out.alloc _).drew
    clear e0 e1 f0 f1
    go_wp2
    go_ret
    exact ⟨rfl, Hfin.out⟩
end Go.Proofs.Ytpbdcjgconopnaa
