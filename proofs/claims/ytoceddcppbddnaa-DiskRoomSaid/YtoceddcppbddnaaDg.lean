/-
  A deed: it is done, or power fails.
-/
import Derived.Test.YtoceddcppbddnaaDf
namespace Go.Proofs.Ytoceddcppbddnaa
open Go.RowKit Mem Go.Maps
set_option linter.unusedVariables false
set_option linter.unusedSimpArgs false

/-- The fuse's count goes down. -/
def tick (X : Dk) : Dk := match X.fuse with
  | some (g, a, k) => ⟨X.room, X.L, X.off, some (g, a - 1, k), X.falls, X.mb⟩
  | none => X
/-- With what power fails at this deed. -/
def blows (X : Dk) : Option Nat := match X.fuse with
  | some (_, a, k) => if a = 0 then some k else none
  | none => none
theorem tick_done {w : World} {d : Nat} {X : Dk} {g : Nat} {a : Int} {k : Nat} (h : At w d X) (hf : X.fuse = some (g, a, k)) (ha : a ≠ 0) : Done w (w.setCell ⟨g, 0, none⟩ (.int .i64 (a - 1))) d X (tick X) := by
  have hfu := h.fuse g a k hf
  have hm : Mod (· = g) w (w.setCell ⟨g, 0, none⟩ (.int .i64 (a - 1))) := Mod.setCell (S := (· = g)) (Mod.refl _ w) (p := ⟨g, 0, none⟩) (.inl rfl) _
  have hne : ∀ s cs T, Blk w s cs T → T ≠ 67 → ¬ s = g := fun s cs T hb2 hT e => Blk.ne hb2 hfu.1 hT e
  have ht : tick X = ⟨X.room, X.L, X.off, some (g, a - 1, k), X.falls, X.mb⟩ := by unfold tick; rw [hf]
  rw [ht]
  refine ⟨⟨?_, ?_, ?_, ?_, h.apart, h.room, h.falls, h.many⟩, hm.mono (fun s hs => .inr (.inr (.inl ⟨a, k, by rw [hs]; exact hf⟩))), ?_⟩
  · have := h.disk.mod hm (hne _ _ _ h.disk (by decide))
    have e : cellsOf X = cellsOf ⟨X.room, X.L, X.off, some (g, a - 1, k), X.falls, X.mb⟩ := by unfold cellsOf; rw [hf]; rfl
    rw [e] at this
    exact this
  · exact h.map.mod hm (fun e => h.map.ne hfu.1 e)
  · rintro g' a' k' hk
    injection hk with hk
    injection hk with e1 e2
    injection e2 with e2 e3
    subst e1 e2 e3
    exact ⟨hfu.1.set 0 _, by omega, by omega, hfu.2.2.2⟩
  · intro f hf2
    refine (h.files f hf2).mod hm (hne _ _ _ (h.files f hf2).blk (by decide)) (fun x hx e => ?_)
    have e : x = g := e
    subst e
    exact ne_cells (U := 5) hfu.1 (h.files f hf2).fb hx (by decide) rfl
  · rintro s (rfl | rfl | ⟨a', k', hk⟩ | hs)
    · exact .inl (.inl rfl)
    · exact .inl (.inr (.inl rfl))
    · injection hk with hk
      injection hk with e1 e2
      subst e1
      exact .inl (.inr (.inr (.inl ⟨a, k, hf⟩)))
    · exact .inl (.inr (.inr (.inr hs)))
set_option maxRecDepth 100000 in
set_option maxHeartbeats 1600000 in
theorem deed_any (w : World) (d : Nat) (X : Dk) (n : Nat) (caps : Array Value) (R : World → Prop) (h : At w d X) (hb : blows X = none) (hent : ∀ w, (callFunc n caps).run Try.prog w = .ok (.enter n caps) w)
    (hdo : ∀ w1, Done w w1 d X (tick X) → Calls Try.prog n caps w1 fun e w2 => e = .returned (.tuple #[]) ∧ R w2) :
    Calls Try.prog 28 #[.pointer (some ⟨d, 0, none⟩), .func (.func n) #[] caps] w fun e w' => e = .returned (.int .i64 0) ∧ R w' := by
  have hd3 : w.cell? ⟨d, 3, none⟩ = some (.pointer (X.fuse.map fun f => ⟨f.1, 0, none⟩)) := h.cell 3
  rcases hf : X.fuse with _ | ⟨g, a, k⟩
  · rw [hf] at hd3
    have hd3' : w.cell? ⟨d, 3, none⟩ = some (.pointer none) := hd3
    have ht : tick X = X := by unfold tick; rw [hf]
    have hdo1 := hdo w (by rw [ht]; exact Done.refl h)
    clear hd3 hdo hf ht h
    go_enter Try.func28, Try.ntmps28
    go_wp2_with (fail)
    refine hdo1.mono ?_
    rintro e w2 ⟨rfl, hR⟩
    have HR := Lib.hid hR
    clear hR hdo1
    go_wp2
    go_ret
    exact ⟨rfl, HR.out⟩
  · rw [hf] at hd3
    have hd3' : w.cell? ⟨d, 3, none⟩ = some (.pointer (some ⟨g, 0, none⟩)) := hd3
    have hfu := h.fuse g a k hf
    have ha : a ≠ 0 := by
      intro e
      unfold blows at hb
      rw [hf] at hb
      dsimp only at hb
      rw [if_pos e] at hb
      cases hb
    have hc0 : w.cell? ⟨g, 0, none⟩ = some (.int .i64 a) := by rw [hfu.1.cell]; rfl
    have hf0 := hfu.1.frozen 0
    have ha1 := hfu.2.1
    have ha2 := hfu.2.2.1
    have z1 : (a == 0) = false := beq_eq_false_iff_ne.2 ha
    have hdo1 := hdo _ (tick_done h hf ha)
    clear hd3 hdo hf h hfu hb ha
    go_enter Try.func28, Try.ntmps28
    go_wp2_with (fail)
    refine hdo1.mono ?_
    rintro e w2 ⟨rfl, hR⟩
    have HR := Lib.hid hR
    clear hR hdo1
    go_wp2
    go_ret
    exact ⟨rfl, HR.out⟩
set_option maxRecDepth 100000 in
set_option maxHeartbeats 1600000 in
theorem deed_blows (w : World) (d : Nat) (X : Dk) (n k : Nat) (caps : Array Value) (h : At w d X) (hfl : X.falls < 1000000) (hb : blows X = some k) :
    Calls Try.prog 28 #[.pointer (some ⟨d, 0, none⟩), .func (.func n) #[] caps] w fun e w' => e = .returned (.int .i64 13) ∧ Done w w' d X (crashX k X) := by
  have hd3 : w.cell? ⟨d, 3, none⟩ = some (.pointer (X.fuse.map fun f => ⟨f.1, 0, none⟩)) := h.cell 3
  rcases hf : X.fuse with _ | ⟨g, a, k'⟩
  · unfold blows at hb
    rw [hf] at hb
    cases hb
  · rw [hf] at hd3
    have hd3' : w.cell? ⟨d, 3, none⟩ = some (.pointer (some ⟨g, 0, none⟩)) := hd3
    have hfu := h.fuse g a k' hf
    unfold blows at hb
    rw [hf] at hb
    dsimp only at hb
    split at hb
    · rename_i ha
      injection hb with hb
      subst hb ha
      have hc0 : w.cell? ⟨g, 0, none⟩ = some (.int .i64 0) := by rw [hfu.1.cell]; rfl
      have hc1 : w.cell? ⟨g, 1, none⟩ = some (.int .u64 (k' : Int)) := by rw [hfu.1.cell]; rfl
      have hcr := crash_any w d X k' hfu.2.2.2 h hfl
      clear hd3 hf h hfu
      go_enter Try.func28, Try.ntmps28
      go_wp2_with (fail)
      refine hcr.mono ?_
      rintro e w2 ⟨rfl, hR⟩
      have HR := Lib.hid hR
      clear hR hcr
      go_wp2
      go_ret
      exact ⟨rfl, HR.out⟩
    · cases hb
end Go.Proofs.Ytoceddcppbddnaa
