/-
  Decode of two bytes that are no store: it panics and recovers.
-/
import Derived.Test.YtealopafgipimaaDoorEn
import Derived.Recover
import Derived.WalkSmall
namespace Go.Proofs.YtealopafgipimaaDoor
open Go.RowKit Mem
set_option linter.unusedVariables false
set_option linter.unusedSimpArgs false

/-- Two bytes, and a reader that stands at a place. -/
def Rr (w : World) (r g : Nat) (at_ : Int) : Prop := Blk w r #[.slice (some ⟨g, 0, none⟩) 2 2, .int .i64 at_] 66 ∧ Blk w g #[.int .u8 83, .int .u8 0] 5
set_option maxRecDepth 100000 in
set_option maxHeartbeats 1600000 in
theorem num_one (r g : Nat) (most : Int) (hmo : 0 ≤ most ∧ most ≤ 1000) (w : World) (h : Rr w r g 1) :
    Calls Tryd.prog 34 #[.pointer (some ⟨r, 0, none⟩), .int .i64 most] w fun e w' => e = .returned (.int .i64 0) ∧ Rr w' r g 2 ∧ Mod (· = r) w w' := by
  obtain ⟨h1, h2⟩ := h
  have c0 : w.cell? ⟨r, 0, none⟩ = some (.slice (some ⟨g, 0, none⟩) 2 2) := h1.cell 0
  have c1 : w.cell? ⟨r, 1, none⟩ = some (.int .i64 1) := h1.cell 1
  have z1 := h1.frozen 1
  have hg := fun n => getnum_any ⟨g, 1, none⟩ 1 1 [0] (w.drewN n) rfl (fun j u hj => by
    have hj0 : j = 0 := by have := (List.getElem?_eq_some_iff.1 hj).1; simp [bts] at this; omega
    subst hj0
    rw [Addr.add_lit]
    show w.cell? _ = _
    rw [h2.cell]
    simpa [bts] using hj) (by omega) (by decide)
  simp only [show gn [0] = (0, 1) by decide] at hg
  have HH := Lib.hid (And.intro h1 h2)
  clear h1 h2
  go_enter Tryd.func34, Tryd.ntmps34
  go_wp2_with (fail)
  go_quiet ((go_at_call 8; refine Calls.quiet_of_same (hg _)))
  go_wp2_with (fail)
  go_ret
  obtain ⟨h1, h2⟩ := HH.out
  have hrg : g ≠ r := Blk.ne h2 h1 (by decide)
  exact ⟨rfl, ⟨h1.set 1 _, h2.far (p := ⟨r, 1, none⟩) hrg _⟩, Mod.setCell (S := fun x => x = r) ((Mod.refl _ w).drewN nq) (p := ⟨r, 1, none⟩) (.inl rfl) _⟩
set_option maxRecDepth 100000 in
set_option maxHeartbeats 1600000 in
theorem num_two (r g : Nat) (most : Int) (hmo : 0 ≤ most ∧ most ≤ 1000) (w : World) (h : Rr w r g 2) :
    Calls Tryd.prog 34 #[.pointer (some ⟨r, 0, none⟩), .int .i64 most] w fun e w' => e = .panicked [{ v := .iface 68 (.agg #[]), recovered := false }] ∧ ∃ q, w' = w.drewN q := by
  obtain ⟨h1, h2⟩ := h
  have c0 : w.cell? ⟨r, 0, none⟩ = some (.slice (some ⟨g, 0, none⟩) 2 2) := h1.cell 0
  have c1 : w.cell? ⟨r, 1, none⟩ = some (.int .i64 2) := h1.cell 1
  have hg := fun n => getnum_any ⟨g, 0, none⟩ 0 0 [] (w.drewN n) rfl (fun j u hj => by simp [bts] at hj) (by omega) (by decide)
  simp only [show gn [] = (0, 0) by decide] at hg
  have HH := Lib.hid (And.intro h1 h2)
  clear h1 h2
  go_enter Tryd.func34, Tryd.ntmps34
  go_wp2_with (fail)
  go_quiet ((go_at_call 8; refine Calls.quiet_of_same (hg _)))
  go_wp2_with (fail)
  exact ⟨rfl, rfl, nq, rfl⟩
set_option maxRecDepth 100000 in
set_option maxHeartbeats 1600000 in
theorem store_bad (r g : Nat) (w : World) (h : Rr w r g 1) :
    Calls Tryd.prog 26 #[.pointer (some ⟨r, 0, none⟩)] w fun e w' => e = .panicked [{ v := .iface 68 (.agg #[]), recovered := false }] ∧ Rr w' r g 2 ∧ Mod (· = r) w w' := by
  go_enter Tryd.func26, Tryd.ntmps26
  go_wp2_with (fail)
  have h1 : Rr (w.alloc (Obj.cells #[Value.slice none 0 0, Value.slice none 0 0] 36)) r g 1 := ⟨h.1.alloc _, h.2.alloc _⟩
  refine (num_one r g 8 (by omega) _ h1).mono ?_
  rintro e w2 ⟨rfl, h2, hm2⟩
  have HM : Hid (Mod (· = r) w w2) := Lib.hid (((Mod.refl (· = r) w).alloc _).trans hm2 (fun _ h => .inl h))
  clear hm2 h1
  have H2 := Lib.hid h2
  clear h2
  go_wp2_with (fail)
  go_loopw [9] (fun v wr => v = .int .i64 0 ∧ wr = w2) (fun _ _ => 0)
  case atStart => exact ⟨rfl, rfl⟩
  case round =>
    obtain ⟨rfl, rfl⟩ := hrel
    go_wp2_with (fail)
    refine (num_two r g 64 (by omega) _ H2.out).mono ?_
    rintro e w3 ⟨rfl, q, rfl⟩
    go_wp2_with (fail)
    exact ⟨rfl, rfl, ⟨H2.out.1.drewN q, H2.out.2.drewN q⟩, HM.out.drewN q⟩
end Go.Proofs.YtealopafgipimaaDoor
