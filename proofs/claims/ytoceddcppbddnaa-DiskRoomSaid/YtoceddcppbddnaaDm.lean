/-
  Sync, Cut, Rename, Remove.
-/
import Derived.Test.YtoceddcppbddnaaDl
namespace Go.Proofs.Ytoceddcppbddnaa
open Go.RowKit Mem Go.Maps
set_option linter.unusedVariables false
set_option linter.unusedSimpArgs false

theorem names_of {w : World} {d : Nat} {X : Dk} (h : At w d X) : X.L.Pairwise (fun f f' => f.name ≠ f'.name) := apart_names h.map
theorem tick_abs_fs (A : Ab) : (tickA A).fs = A.fs := by
  unfold tickA
  split <;> rfl
/-- A cell that a closure took in: it is beside the disk. -/
theorem far_cell {w w' : World} {d : Nat} {X X' : Dk} (h : Done w w' d X X') {p : Addr} {v : Value} (hc : w.cell? p = some v) (hp : ¬ Foot d X p.block) : w'.cell? p = some v := cell_keep h.m hc hp
theorem enter31 : ∀ (caps : Array Value) w, (callFunc 31 caps).run Try.prog w = .ok (.enter 31 caps) w := fun caps => enters_of Try.func31 (by kernel_rfl) rfl caps
set_option maxRecDepth 100000 in
set_option maxHeartbeats 1600000 in
theorem sync_do (w : World) (d : Nat) (X : Dk) (n : Bs) (f : Fr) (p : Nat) (h : At w d X) (hf : fndF X.L n = some f) (hp : w.cell? ⟨p, 0, none⟩ = some (.pointer (some ⟨f.g, 0, none⟩))) :
    Calls Try.prog 31 #[.pointer (some ⟨p, 0, none⟩)] w fun e w2 => e = .returned (.tuple #[]) ∧ ∃ X', abs X' = withFs (abs X) (setA (abs X).fs n f.b f.b.length) ∧ Done w w2 d X X' := by
  have hF := h.files f (fnd_some hf).1
  have hcf : w.cell? ⟨f.g, 0, none⟩ = some f.v := by rw [hF.blk.cell]; rfl
  have hcn : w.cell? ⟨f.g, 1, none⟩ = some (.int .i64 (f.n : Int)) := by rw [hF.blk.cell]; rfl
  have hff := hF.blk.frozen 1
  obtain ⟨fa, fc, hfv, _, _⟩ := hF.fb.shape
  have HFV := Lib.hid hfv
  rw [hfv] at hcf
  have H := Lib.hid h
  have HFD := Lib.hid hf
  clear h hf hF hfv
  go_enter Try.func31, Try.ntmps31
  go_wp2
  refine still_tail 8 (by kernel_rfl) (by kernel_rfl) ?_
  simp only [List.take_succ_cons, List.take_zero, List.drop_succ_cons, List.drop_zero]
  repeat still_step
  refine wpStill_nil ?_
  go_wp2
  go_end0
  obtain ⟨hfm, hfn⟩ := fnd_some HFD.out
  have hF := H.out.files f hfm
  have hm : Mod (· = f.g) w (w.setCell ⟨f.g, 1, none⟩ (.int .i64 (f.b.length : Int))).drew := (Mod.setCell (S := (· = f.g)) (Mod.refl _ w) (p := ⟨f.g, 1, none⟩) (.inl rfl) _).drew
  have hup := H.out.upd hfm (f' := ⟨f.name, f.b, f.b.length, f.g, f.v⟩) rfl rfl (fun x hx => .inl hx) (hm.mono (fun s hs => .inl hs)) ⟨(hF.blk.set 1 _).drew, hF.fb.mod hm (fun y hy he => by
    have he : y = f.g := he
    subst he
    exact ne_cells (U := 5) hF.blk hF.fb hy (by decide) rfl), Nat.le_refl _, hF.len, hF.name⟩
  refine ⟨rfl, _, ?_, hup⟩
  have := abs_upd H.out.apart (names_of H.out) hfm (f' := ⟨f.name, f.b, f.b.length, f.g, f.v⟩) rfl rfl
  rw [this, hfn]
theorem tick_fnd (X : Dk) (n : Bs) : fndF (tick X).L n = fndF X.L n := by rw [(tick_L X).1]
set_option maxRecDepth 100000 in
set_option maxHeartbeats 1600000 in
theorem sync_any (w : World) (d : Nat) (X : Dk) (n : Bs) (h : At w d X) (hn : n.length ≤ maxLen) (hfl : X.falls < 1000000) : Calls Try.prog 12 #[.pointer (some ⟨d, 0, none⟩), .string (sv n)] w fun e w' => Said w w' d X (syncA (abs X) n) e := by
  have H := Lib.hid h
  have eo : (abs X).off = X.off := rfl
  obtain ⟨off, hoff⟩ : ∃ o, X.off = o := ⟨_, rfl⟩
  obtain ⟨o, ho⟩ : ∃ o, fndF X.L n = o := ⟨_, rfl⟩
  have hV : ofV X n = ofVal off o := by unfold ofV; rw [hoff, ho]
  have hg := abs_get X n
  rw [ho] at hg
  cases off with
  | true =>
    have HA : Hid (syncA (abs X) n = (abs X, 13)) := Lib.hid (by unfold syncA ofA; rw [eo, hoff]; rfl)
    have hof := of_v h hn (v := .tuple #[.pointer none, .int .i64 13]) hV
    clear h hoff ho hV hg
    go_enter Try.func12, Try.ntmps12
    go_wp2_with (fail)
    refine hof.mono ?_
    rintro e w' ⟨rfl, rfl⟩
    go_wp2
    go_ret
    rw [HA.out]
    exact ⟨X, rfl, rfl, Done.still H.out ((Mod.refl _ _).alloc _)⟩
  | false =>
    cases o with
    | none =>
      have HA : Hid (syncA (abs X) n = (abs X, 15)) := Lib.hid (by unfold syncA ofA; rw [eo, hoff, hg]; rfl)
      have hof := of_v h hn (v := .tuple #[.pointer none, .int .i64 15]) hV
      clear h hoff ho hV hg
      go_enter Try.func12, Try.ntmps12
      go_wp2_with (fail)
      refine hof.mono ?_
      rintro e w' ⟨rfl, rfl⟩
      go_wp2
      go_ret
      rw [HA.out]
      exact ⟨X, rfl, rfl, Done.still H.out ((Mod.refl _ _).alloc _)⟩
    | some f =>
      have HA : Hid (syncA (abs X) n = deedA (abs X) fun A => withFs A (setA A.fs n f.b f.b.length)) := Lib.hid (by unfold syncA ofA; rw [eo, hoff, hg]; rfl)
      have hof := of_v h hn (v := .tuple #[.pointer (some ⟨f.g, 0, none⟩), .int .i64 0]) hV
      have HO := Lib.hid ho
      clear h hoff hV hg ho
      go_enter Try.func12, Try.ntmps12
      go_wp2_with (fail)
      refine hof.mono ?_
      rintro e w' ⟨rfl, rfl⟩
      go_wp2_with (fail)
      have hm0 : Mod (fun _ => False) w (w.alloc (.cells #[.pointer (some ⟨f.g, 0, none⟩)] 58)) := (Mod.refl _ _).alloc _
      have hbx : Blk (w.alloc (.cells #[.pointer (some ⟨f.g, 0, none⟩)] 58)) w.heap.size #[.pointer (some ⟨f.g, 0, none⟩)] 58 := Blk.new _ _ _
      have HD0 := Lib.hid (Done.still H.out hm0)
      refine (deed_said _ d X 31 _ (fun A => withFs A (setA A.fs n f.b f.b.length)) HD0.out.a hfl (enter31 _) (fun w1 h1 => ?_)).mono ?_
      · refine (sync_do w1 d (tick X) n f w.heap.size h1.a (by rw [tick_fnd]; exact HO.out) (far_cell h1 (hbx.cell 0) (fun hf => by have := H.out.lt hf; exact absurd this (Nat.lt_irrefl _)))).mono ?_
        rintro e w2 ⟨he, X', ha, hd⟩
        exact ⟨he, X', by rw [ha, abs_tick], hd⟩
      · rintro e w3 ⟨X3, rfl, hX3, hD3⟩
        have HX3 := Lib.hid hX3
        have HD3 := Lib.hid (HD0.out.trans hD3)
        clear hX3 hD3
        go_wp2
        go_ret
        rw [HA.out]
        exact ⟨X3, rfl, HX3.out, HD3.out⟩
end Go.Proofs.Ytoceddcppbddnaa
