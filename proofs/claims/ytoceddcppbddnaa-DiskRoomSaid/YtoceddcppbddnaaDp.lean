/-
  Remove, Cut and Rename.
-/
import Derived.Test.YtoceddcppbddnaaDm
import Derived.Deep.RegionHeld3
namespace Go.Proofs.Ytoceddcppbddnaa
open Go.RowKit Mem Go.Maps
set_option linter.unusedVariables false
set_option linter.unusedSimpArgs false

theorem wpList_delete_run {P : Program} {w : World} {ops : Array Oper} {rest : List Oper} {o : Oper} {a : Act} {Q : Exit → Act → World → Prop} (hgd : o.guard = none) (d s : Operand) (t t' : TypeId)
    (ho : o.op = .call { callee := .builtin .delete, args := #[d, s], argTypes := #[t, t'] }) (v u : Value) (hd : a.eval d = v) (hs : a.eval s = u)
    {v' : Value} {w' : World} (hr : (Builtin.delete_ #[t, t'] o.type #[v, u]).run P w = .ok v' w') (h : wpList P ops Q rest (a.put o.dst v') w') : wpList P ops Q (o :: rest) a w :=
  wpList_plain hgd fun K hK => by
    unfold Oper.wp execOp
    simp only [ho, resolve, invoke, builtin, Sem.run_bind, Sem.run_pure, Result.andThen_ok, List.map_toArray, List.map_cons, List.map_nil, hd, hs, hr]
    exact hK _ _ h
theorem enter34 : ∀ (caps : Array Value) w, (callFunc 34 caps).run Try.prog w = .ok (.enter 34 caps) w := fun caps => enters_of Try.func34 (by kernel_rfl) rfl caps
theorem enter35 : ∀ (caps : Array Value) w, (callFunc 35 caps).run Try.prog w = .ok (.enter 35 caps) w := fun caps => enters_of Try.func35 (by kernel_rfl) rfl caps
theorem enter36 : ∀ (caps : Array Value) w, (callFunc 36 caps).run Try.prog w = .ok (.enter 36 caps) w := fun caps => enters_of Try.func36 (by kernel_rfl) rfl caps
set_option maxRecDepth 100000 in
set_option maxHeartbeats 1600000 in
theorem remove_do (w : World) (d : Nat) (X : Dk) (n : Bs) (p q : Nat) (h : At w d X) (hn : n.length ≤ maxLen) (hp : w.cell? ⟨p, 0, none⟩ = some (.pointer (some ⟨d, 0, none⟩))) (hq : w.cell? ⟨q, 0, none⟩ = some (.string (sv n))) :
    Calls Try.prog 34 #[.pointer (some ⟨p, 0, none⟩), .pointer (some ⟨q, 0, none⟩)] w fun e w2 => e = .returned (.tuple #[]) ∧ ∃ X', abs X' = withFs (abs X) (delA (abs X).fs n) ∧ Done w w2 d X X' := by
  have hcm : w.cell? ⟨d, 1, none⟩ = some (.map (some X.mb)) := h.cell 1
  have H := Lib.hid h
  obtain ⟨w', hrun, hPM, hm⟩ := (h.still (Mod.refl _ w).drew).map.drop hn 0
  have HD : Hid (Done w w' d X { X with L := delF X.L n }) := Lib.hid (h.drop n (Mod.undrew hm) hPM)
  clear h hPM hm
  go_enter Try.func34, Try.ntmps34
  go_wp2
  refine still_tail 5 (by kernel_rfl) (by kernel_rfl) ?_
  simp only [List.take_succ_cons, List.take_zero, List.drop_succ_cons, List.drop_zero]
  repeat still_step
  refine wpStill_nil ?_
  refine wpList_delete_run rfl _ _ 53 9 rfl _ _ rfl rfl hrun ?_
  go_wp2
  go_end0
  exact ⟨rfl, _, abs_drop X n, HD.out⟩
set_option maxRecDepth 100000 in
set_option maxHeartbeats 1600000 in
theorem rename_do (w : World) (d : Nat) (X : Dk) (n t : Bs) (f : Fr) (p q r s : Nat) (h : At w d X) (hn : n.length ≤ maxLen) (hf : fndF X.L n = some f) (ht : t.length ≤ 32) (hp : w.cell? ⟨p, 0, none⟩ = some (.pointer (some ⟨d, 0, none⟩))) (hq : w.cell? ⟨q, 0, none⟩ = some (.string (sv n))) (hr : w.cell? ⟨r, 0, none⟩ = some (.pointer (some ⟨f.g, 0, none⟩))) (hs : w.cell? ⟨s, 0, none⟩ = some (.string (sv t)))
    (fp : ¬ Foot d X p) (fr : ¬ Foot d X r) (fs : ¬ Foot d X s) :
    Calls Try.prog 36 #[.pointer (some ⟨p, 0, none⟩), .pointer (some ⟨q, 0, none⟩), .pointer (some ⟨r, 0, none⟩), .pointer (some ⟨s, 0, none⟩)] w fun e w2 => e = .returned (.tuple #[]) ∧ ∃ X', abs X' = withFs (abs X) (insA (t, f.b, f.n) (delA (delA (abs X).fs n) t)) ∧ Done w w2 d X X' := by
  have hcm : w.cell? ⟨d, 1, none⟩ = some (.map (some X.mb)) := h.cell 1
  have H := Lib.hid h
  obtain ⟨w', hrun, hPM, hm1⟩ := (h.still (Mod.refl _ w).drew).map.drop hn 0
  have hm := Mod.undrew hm1
  have hD1 : Done w w' d X { X with L := delF X.L n } := h.drop n hm hPM
  have hcm1 : w'.cell? ⟨d, 1, none⟩ = some (.map (some X.mb)) := hD1.a.cell 1
  have hp1 := far_cell hD1 hp fp
  have hr1 := far_cell hD1 hr fr
  have hs1 := far_cell hD1 hs fs
  obtain ⟨w'', hput, hPM2, hm2'⟩ := (hPM.mod (Mod.refl (fun _ => False) w').drew (fun h => h)).put (ren f t) (by show t.length ≤ maxLen; unfold maxLen; omega) (by have := del_len X.L n; have := h.many; omega)
  have hm2 := Mod.undrew hm2'
  have hput' : (Instr.mapUpdate 53 (.map (some X.mb)) (.string (sv t)) (.pointer (some ⟨f.g, 0, none⟩))).run Try.prog w'.drew = .ok () w'' := hput
  have HD : Hid (Done w w'' d X { X with L := insF (ren f t) (delF (delF X.L n) t) }) := Lib.hid (h.rename hf ht (hm.trans hm2 (fun _ h => .inl h)) hPM2)
  clear h hPM hm hm1 hD1 hput hPM2 hm2 hm2' hf ht fp fr fs
  go_enter Try.func36, Try.ntmps36
  go_wp2
  refine still_tail 5 (by kernel_rfl) (by kernel_rfl) ?_
  simp only [List.take_succ_cons, List.take_zero, List.drop_succ_cons, List.drop_zero]
  repeat still_step
  refine wpStill_nil ?_
  refine wpList_delete_run rfl _ _ 53 9 rfl _ _ rfl rfl hrun ?_
  go_wp2
  refine still_tail 6 (by kernel_rfl) (by kernel_rfl) ?_
  simp only [List.take_succ_cons, List.take_zero, List.drop_succ_cons, List.drop_zero]
  repeat still_step
  refine wpStill_nil ?_
  go_wp2
  go_end0
  exact ⟨rfl, _, abs_rename X n t f, HD.out⟩
set_option maxRecDepth 100000 in
set_option maxHeartbeats 1600000 in
theorem cut_do (w : World) (d : Nat) (X : Dk) (n : Bs) (f : Fr) (k p q : Nat) (h : At w d X) (hf : fndF X.L n = some f) (hk : k ≤ f.b.length) (hp : w.cell? ⟨p, 0, none⟩ = some (.pointer (some ⟨f.g, 0, none⟩))) (hq : w.cell? ⟨q, 0, none⟩ = some (.int .i64 (k : Int))) (hpg : p ≠ f.g) (hqg : q ≠ f.g) :
    Calls Try.prog 35 #[.pointer (some ⟨p, 0, none⟩), .pointer (some ⟨q, 0, none⟩)] w fun e w2 => e = .returned (.tuple #[]) ∧ ∃ X', abs X' = withFs (abs X) (setA (abs X).fs n (f.b.take k) (min k f.n)) ∧ Done w w2 d X X' := by
  have hF := h.files f (fnd_some hf).1
  have hcf : w.cell? ⟨f.g, 0, none⟩ = some f.v := by rw [hF.blk.cell]; rfl
  have hcn : w.cell? ⟨f.g, 1, none⟩ = some (.int .i64 (f.n : Int)) := by rw [hF.blk.cell]; rfl
  have hff0 := hF.blk.frozen 0
  have hff := hF.blk.frozen 1
  obtain ⟨fa, fc, hfv, hfc, _⟩ := hF.fb.shape
  have HFV := Lib.hid hfv
  have hkc : k ≤ fc := by omega
  have hmin : min (k : Int) (f.n : Int) = ((min k f.n : Nat) : Int) := by omega
  rw [hfv] at hcf
  have H := Lib.hid h
  have HFD := Lib.hid hf
  have HK := Lib.hid hk
  clear h hf hF hfv
  go_enter Try.func35, Try.ntmps35
  have hS0 : w.drew.cell? ⟨p, 0, none⟩ = some (.pointer (some ⟨f.g, 0, none⟩)) ∧ w.drew.cell? ⟨q, 0, none⟩ = some (.int .i64 (k : Int)) := ⟨hp, hq⟩
  have hk1 : ∀ u, (w.setCell ⟨f.g, 0, none⟩ u).drew.cell? ⟨p, 0, none⟩ = some (.pointer (some ⟨f.g, 0, none⟩)) ∧ (w.setCell ⟨f.g, 0, none⟩ u).drew.cell? ⟨q, 0, none⟩ = some (.int .i64 (k : Int)) := fun u =>
    ⟨by show (w.setCell _ u).cell? _ = _; rw [World.cell?_setCell_far _ _ _ _ (Ne.symm hpg)]; exact hp, by show (w.setCell _ u).cell? _ = _; rw [World.cell?_setCell_far _ _ _ _ (Ne.symm hqg)]; exact hq⟩
  have hk2 : ∀ u u', ((w.setCell ⟨f.g, 0, none⟩ u).setCell ⟨f.g, 1, none⟩ u').drew.cell? ⟨p, 0, none⟩ = some (.pointer (some ⟨f.g, 0, none⟩)) ∧ ((w.setCell ⟨f.g, 0, none⟩ u).setCell ⟨f.g, 1, none⟩ u').drew.cell? ⟨q, 0, none⟩ = some (.int .i64 (k : Int)) := fun u u' =>
    ⟨by show (World.setCell (w.setCell _ u) _ u').cell? _ = _; rw [World.cell?_setCell_far _ _ _ _ (Ne.symm hpg)]; exact (hk1 u).1, by show (World.setCell (w.setCell _ u) _ u').cell? _ = _; rw [World.cell?_setCell_far _ _ _ _ (Ne.symm hqg)]; exact (hk1 u).2⟩
  go_wp2
  refine wp_region_held_drew (S := fun w' => w'.cell? ⟨p, 0, none⟩ = some (.pointer (some ⟨f.g, 0, none⟩)) ∧ w'.cell? ⟨q, 0, none⟩ = some (.int .i64 (k : Int))) (by kernel_rfl) hS0 (fun hHeld => ?_)
  refine wpAnyH_take (i := 0) (oi := { dst := some 2, op := Op.load 58 (Operand.tmp 0), type := 58, pos := "disk.go:141", after := #[], guard := none }) (v := ?_) rfl (by kernel_rfl) (by kernel_rfl) (by kernel_rfl) (fun _ _ _ h => h) (Or.inl ⟨by rfl, ?_⟩) hHeld ?_
  rotate_left
  · intro w' hSw
    obtain ⟨sp, sq⟩ := hSw
    go_simp
    try with_reducible rfl
  try simp only [Act.put, List.setIfInBounds_toArray, List.set_cons_zero, List.set_cons_succ]
  refine wpAnyH_take (i := 1) (oi := { dst := some 3, op := Op.load 58 (Operand.tmp 0), type := 58, pos := "disk.go:141", after := #[], guard := none }) (v := ?_) rfl (by kernel_rfl) (by kernel_rfl) (by kernel_rfl) (fun _ _ _ h => h) (Or.inl ⟨by rfl, ?_⟩) hHeld ?_
  rotate_left
  · intro w' hSw
    obtain ⟨sp, sq⟩ := hSw
    go_simp
    try with_reducible rfl
  try simp only [Act.put, List.setIfInBounds_toArray, List.set_cons_zero, List.set_cons_succ]
  refine wpAnyH_take (i := 2) (oi := { dst := some 4, op := Op.load 58 (Operand.tmp 0), type := 58, pos := "disk.go:141", after := #[], guard := none }) (v := ?_) rfl (by kernel_rfl) (by kernel_rfl) (by kernel_rfl) (fun _ _ _ h => h) (Or.inl ⟨by rfl, ?_⟩) hHeld ?_
  rotate_left
  · intro w' hSw
    obtain ⟨sp, sq⟩ := hSw
    go_simp
    try with_reducible rfl
  try simp only [Act.put, List.setIfInBounds_toArray, List.set_cons_zero, List.set_cons_succ]
  refine wpAnyH_take (i := 6) (oi := { dst := some 8, op := Op.load 3 (Operand.tmp 1), type := 3, pos := "disk.go:141", after := #[], guard := none }) (v := ?_) rfl (by kernel_rfl) (by kernel_rfl) (by kernel_rfl) (fun _ _ _ h => h) (Or.inl ⟨by rfl, ?_⟩) hHeld ?_
  rotate_left
  · intro w' hSw
    obtain ⟨sp, sq⟩ := hSw
    go_simp
    try with_reducible rfl
  try simp only [Act.put, List.setIfInBounds_toArray, List.set_cons_zero, List.set_cons_succ]
  refine wpAnyH_take (i := 7) (oi := { dst := some 9, op := Op.load 3 (Operand.tmp 1), type := 3, pos := "disk.go:141", after := #[], guard := none }) (v := ?_) rfl (by kernel_rfl) (by kernel_rfl) (by kernel_rfl) (fun _ _ _ h => h) (Or.inl ⟨by rfl, ?_⟩) hHeld ?_
  rotate_left
  · intro w' hSw
    obtain ⟨sp, sq⟩ := hSw
    go_simp
    try with_reducible rfl
  try simp only [Act.put, List.setIfInBounds_toArray, List.set_cons_zero, List.set_cons_succ]
  refine wpAnyH_take (i := 9) (oi := { dst := some 11, op := Op.load 3 (Operand.tmp 1), type := 3, pos := "disk.go:141", after := #[], guard := none }) (v := ?_) rfl (by kernel_rfl) (by kernel_rfl) (by kernel_rfl) (fun _ _ _ h => h) (Or.inl ⟨by rfl, ?_⟩) hHeld ?_
  rotate_left
  · intro w' hSw
    obtain ⟨sp, sq⟩ := hSw
    go_simp
    try with_reducible rfl
  try simp only [Act.put, List.setIfInBounds_toArray, List.set_cons_zero, List.set_cons_succ]
  refine wpAnyH_take (i := 10) (oi := { dst := some 12, op := Op.load 58 (Operand.tmp 0), type := 58, pos := "disk.go:141", after := #[], guard := none }) (v := ?_) rfl (by kernel_rfl) (by kernel_rfl) (by kernel_rfl) (fun _ _ _ h => h) (Or.inl ⟨by rfl, ?_⟩) hHeld ?_
  rotate_left
  · intro w' hSw
    obtain ⟨sp, sq⟩ := hSw
    go_simp
    try with_reducible rfl
  try simp only [Act.put, List.setIfInBounds_toArray, List.set_cons_zero, List.set_cons_succ]
  refine wpAnyH_take (i := 3) (oi := { dst := some 5, op := Op.nilCheck (Operand.tmp 4), type := 0, pos := "disk.go:141", after := #[{ on := 2, ground := Ground.data }], guard := none }) (v := ?_) rfl (by kernel_rfl) (by kernel_rfl) (by kernel_rfl) (fun _ _ _ h => h) (Or.inl ⟨by rfl, ?_⟩) hHeld ?_
  rotate_left
  · intro w' hSw
    obtain ⟨sp, sq⟩ := hSw
    go_simp
    try with_reducible rfl
  try simp only [Act.put, List.setIfInBounds_toArray, List.set_cons_zero, List.set_cons_succ]
  refine wpAnyH_take (i := 4) (oi := { dst := some 6, op := Op.fieldAddr 60 (Operand.tmp 5) 0, type := 0, pos := "disk.go:141", after := #[{ on := 3, ground := Ground.data }], guard := none }) (v := ?_) rfl (by kernel_rfl) (by kernel_rfl) (by kernel_rfl) (fun _ _ _ h => h) (Or.inl ⟨by rfl, ?_⟩) hHeld ?_
  rotate_left
  · intro w' hSw
    obtain ⟨sp, sq⟩ := hSw
    go_simp
    try with_reducible rfl
  try simp only [Act.put, List.setIfInBounds_toArray, List.set_cons_zero, List.set_cons_succ]
  refine wpAnyH_take (i := 11) (oi := { dst := some 13, op := Op.nilCheck (Operand.tmp 12), type := 0, pos := "disk.go:141", after := #[{ on := 10, ground := Ground.data }], guard := none }) (v := ?_) rfl (by kernel_rfl) (by kernel_rfl) (by kernel_rfl) (fun _ _ _ h => h) (Or.inl ⟨by rfl, ?_⟩) hHeld ?_
  rotate_left
  · intro w' hSw
    obtain ⟨sp, sq⟩ := hSw
    go_simp
    try with_reducible rfl
  try simp only [Act.put, List.setIfInBounds_toArray, List.set_cons_zero, List.set_cons_succ]
  refine wpAnyH_take (i := 12) (oi := { dst := some 14, op := Op.fieldAddr 60 (Operand.tmp 13) 1, type := 0, pos := "disk.go:141", after := #[{ on := 11, ground := Ground.data }], guard := none }) (v := ?_) rfl (by kernel_rfl) (by kernel_rfl) (by kernel_rfl) (fun _ _ _ h => h) (Or.inl ⟨by rfl, ?_⟩) hHeld ?_
  rotate_left
  · intro w' hSw
    obtain ⟨sp, sq⟩ := hSw
    go_simp
    try with_reducible rfl
  try simp only [Act.put, List.setIfInBounds_toArray, List.set_cons_zero, List.set_cons_succ]
  refine wpAnyH_ready (rs := [5, 13]) (by kernel_rfl) (by simp) ?_
  refine AllReadyH.cons (o := { dst := some 7, op := Op.load 22 (Operand.tmp 6), type := 22, pos := "disk.go:141", after := #[{ on := 4, ground := Ground.data }], guard := none }) rfl (fun K hK => ?_) (AllReadyH.cons (o := { dst := some 15, op := Op.load 3 (Operand.tmp 14), type := 3, pos := "disk.go:141", after := #[{ on := 12, ground := Ground.data }], guard := none }) rfl (fun K hK => ?_) AllReadyH.nil)
  · go_simp
    refine hK.out _ _ ?_ (fun hHeld => ?_)
    · exact hS0
    clear hK K
    try simp only [Act.put, List.setIfInBounds_toArray, List.set_cons_zero, List.set_cons_succ]
    refine wpAnyH_take (i := 8) (oi := { dst := some 10, op := Op.slice 22 (Operand.tmp 7) none (some (Operand.tmp 8)) (some (Operand.tmp 9)), type := 22, pos := "disk.go:141", after := #[{ on := 5, ground := Ground.data }, { on := 6, ground := Ground.data }, { on := 7, ground := Ground.data }], guard := none }) (v := ?_) rfl (by kernel_rfl) (by kernel_rfl) (by kernel_rfl) (fun _ _ _ h => h) (Or.inl ⟨by rfl, ?_⟩) hHeld ?_
    rotate_left
    · intro w' hSw
      obtain ⟨sp, sq⟩ := hSw
      go_simp
      try with_reducible rfl
    try simp only [Act.put, List.setIfInBounds_toArray, List.set_cons_zero, List.set_cons_succ]
    refine wpAnyH_ready (rs := [13]) (by kernel_rfl) (by simp) ?_
    refine AllReadyH.cons (o := { dst := some 15, op := Op.load 3 (Operand.tmp 14), type := 3, pos := "disk.go:141", after := #[{ on := 12, ground := Ground.data }], guard := none }) rfl (fun K hK => ?_) ?_
    rotate_left
    · exact AllReadyH.nil
    go_simp
    refine hK.out _ _ ?_ (fun hHeld => ?_)
    · exact hS0
    clear hK K
    try simp only [Act.put, List.setIfInBounds_toArray, List.set_cons_zero, List.set_cons_succ]
    refine wpAnyH_take (i := 14) (oi := { dst := some 16, op := Op.call { callee := Callee.builtin Builtin.min, args := #[Operand.tmp 11, Operand.tmp 15], argTypes := #[3, 3] }, type := 3, pos := "disk.go:141", after := #[{ on := 9, ground := Ground.data }, { on := 13, ground := Ground.data }], guard := none }) (v := ?_) rfl (by kernel_rfl) (by kernel_rfl) (by kernel_rfl) (fun _ _ _ h => h) (Or.inl ⟨by rfl, ?_⟩) hHeld ?_
    rotate_left
    · intro w' hSw
      obtain ⟨sp, sq⟩ := hSw
      go_simp
      try with_reducible rfl
    try simp only [Act.put, List.setIfInBounds_toArray, List.set_cons_zero, List.set_cons_succ]
    refine wpAnyH_take (i := 15) (oi := { dst := some 17, op := Op.nilCheck (Operand.tmp 2), type := 0, pos := "disk.go:141", after := #[{ on := 0, ground := Ground.data }, { on := 0, ground := Ground.phase }, { on := 1, ground := Ground.textOnly Departure.inlinedCapture }, { on := 2, ground := Ground.phase }, { on := 3, ground := Ground.phase }, { on := 4, ground := Ground.phase }, { on := 5, ground := Ground.phase }, { on := 6, ground := Ground.phase }, { on := 7, ground := Ground.phase }, { on := 8, ground := Ground.phase }, { on := 9, ground := Ground.textOnly Departure.inlinedCapture }, { on := 10, ground := Ground.textOnly Departure.inlinedCapture }, { on := 11, ground := Ground.textOnly Departure.lateStoresUnsure }, { on := 12, ground := Ground.textOnly Departure.lateStoresUnsure }, { on := 13, ground := Ground.phase }, { on := 14, ground := Ground.textOnly Departure.lateStoresUnsure }], guard := none }) (v := ?_) rfl (by kernel_rfl) (by kernel_rfl) (by kernel_rfl) (fun _ _ _ h => h) (Or.inl ⟨by rfl, ?_⟩) hHeld ?_
    rotate_left
    · intro w' hSw
      obtain ⟨sp, sq⟩ := hSw
      go_simp
      try with_reducible rfl
    try simp only [Act.put, List.setIfInBounds_toArray, List.set_cons_zero, List.set_cons_succ]
    refine wpAnyH_take (i := 16) (oi := { dst := some 18, op := Op.fieldAddr 60 (Operand.tmp 17) 0, type := 0, pos := "disk.go:141", after := #[{ on := 15, ground := Ground.data }, { on := 0, ground := Ground.phase }, { on := 1, ground := Ground.textOnly Departure.inlinedCapture }, { on := 2, ground := Ground.phase }, { on := 3, ground := Ground.phase }, { on := 4, ground := Ground.phase }, { on := 5, ground := Ground.phase }, { on := 6, ground := Ground.phase }, { on := 7, ground := Ground.phase }, { on := 8, ground := Ground.phase }, { on := 9, ground := Ground.textOnly Departure.inlinedCapture }, { on := 10, ground := Ground.textOnly Departure.inlinedCapture }, { on := 11, ground := Ground.textOnly Departure.lateStoresUnsure }, { on := 12, ground := Ground.textOnly Departure.lateStoresUnsure }, { on := 13, ground := Ground.phase }, { on := 14, ground := Ground.textOnly Departure.lateStoresUnsure }], guard := none }) (v := ?_) rfl (by kernel_rfl) (by kernel_rfl) (by kernel_rfl) (fun _ _ _ h => h) (Or.inl ⟨by rfl, ?_⟩) hHeld ?_
    rotate_left
    · intro w' hSw
      obtain ⟨sp, sq⟩ := hSw
      go_simp
      try with_reducible rfl
    try simp only [Act.put, List.setIfInBounds_toArray, List.set_cons_zero, List.set_cons_succ]
    refine wpAnyH_ready (rs := [17]) (by kernel_rfl) (by simp) ?_
    refine AllReadyH.cons (o := { dst := none, op := Op.store 22 (Operand.tmp 18) (Operand.tmp 10), type := 0, pos := "disk.go:141", after := #[{ on := 16, ground := Ground.data }, { on := 8, ground := Ground.data }, { on := 0, ground := Ground.phase }, { on := 1, ground := Ground.textOnly Departure.inlinedCapture }, { on := 2, ground := Ground.phase }, { on := 3, ground := Ground.phase }, { on := 4, ground := Ground.phase }, { on := 5, ground := Ground.phase }, { on := 6, ground := Ground.phase }, { on := 7, ground := Ground.phase }, { on := 8, ground := Ground.phase }, { on := 9, ground := Ground.textOnly Departure.inlinedCapture }, { on := 10, ground := Ground.textOnly Departure.inlinedCapture }, { on := 11, ground := Ground.textOnly Departure.lateStoresUnsure }, { on := 12, ground := Ground.textOnly Departure.lateStoresUnsure }, { on := 13, ground := Ground.phase }, { on := 14, ground := Ground.textOnly Departure.lateStoresUnsure }], guard := none }) rfl (fun K hK => ?_) ?_
    rotate_left
    · exact AllReadyH.nil
    go_simp
    refine hK.out _ _ ?_ (fun hHeld => ?_)
    · exact hk1 _
    clear hK K
    try simp only [Act.put, List.setIfInBounds_toArray, List.set_cons_zero, List.set_cons_succ]
    refine wpAnyH_take (i := 18) (oi := { dst := some 19, op := Op.nilCheck (Operand.tmp 3), type := 0, pos := "disk.go:141", after := #[{ on := 1, ground := Ground.data }, { on := 0, ground := Ground.phase }, { on := 1, ground := Ground.phase }, { on := 2, ground := Ground.phase }, { on := 3, ground := Ground.phase }, { on := 4, ground := Ground.phase }, { on := 5, ground := Ground.phase }, { on := 6, ground := Ground.phase }, { on := 7, ground := Ground.phase }, { on := 8, ground := Ground.phase }, { on := 9, ground := Ground.phase }, { on := 10, ground := Ground.phase }, { on := 11, ground := Ground.phase }, { on := 12, ground := Ground.phase }, { on := 13, ground := Ground.phase }, { on := 14, ground := Ground.phase }, { on := 15, ground := Ground.phase }, { on := 16, ground := Ground.phase }, { on := 17, ground := Ground.phase }], guard := none }) (v := ?_) rfl (by kernel_rfl) (by kernel_rfl) (by kernel_rfl) (fun _ _ _ h => h) (Or.inl ⟨by rfl, ?_⟩) hHeld ?_
    rotate_left
    · intro w' hSw
      obtain ⟨sp, sq⟩ := hSw
      go_simp
      try with_reducible rfl
    try simp only [Act.put, List.setIfInBounds_toArray, List.set_cons_zero, List.set_cons_succ]
    refine wpAnyH_take (i := 19) (oi := { dst := some 20, op := Op.fieldAddr 60 (Operand.tmp 19) 1, type := 0, pos := "disk.go:141", after := #[{ on := 18, ground := Ground.data }, { on := 0, ground := Ground.phase }, { on := 1, ground := Ground.phase }, { on := 2, ground := Ground.phase }, { on := 3, ground := Ground.phase }, { on := 4, ground := Ground.phase }, { on := 5, ground := Ground.phase }, { on := 6, ground := Ground.phase }, { on := 7, ground := Ground.phase }, { on := 8, ground := Ground.phase }, { on := 9, ground := Ground.phase }, { on := 10, ground := Ground.phase }, { on := 11, ground := Ground.phase }, { on := 12, ground := Ground.phase }, { on := 13, ground := Ground.phase }, { on := 14, ground := Ground.phase }, { on := 15, ground := Ground.phase }, { on := 16, ground := Ground.phase }, { on := 17, ground := Ground.phase }], guard := none }) (v := ?_) rfl (by kernel_rfl) (by kernel_rfl) (by kernel_rfl) (fun _ _ _ h => h) (Or.inl ⟨by rfl, ?_⟩) hHeld ?_
    rotate_left
    · intro w' hSw
      obtain ⟨sp, sq⟩ := hSw
      go_simp
      try with_reducible rfl
    try simp only [Act.put, List.setIfInBounds_toArray, List.set_cons_zero, List.set_cons_succ]
    refine wpAnyH_ready (rs := [20]) (by kernel_rfl) (by simp) ?_
    refine AllReadyH.cons (o := { dst := none, op := Op.store 3 (Operand.tmp 20) (Operand.tmp 16), type := 0, pos := "disk.go:141", after := #[{ on := 19, ground := Ground.data }, { on := 14, ground := Ground.data }, { on := 17, ground := Ground.chain }, { on := 0, ground := Ground.phase }, { on := 1, ground := Ground.phase }, { on := 2, ground := Ground.phase }, { on := 3, ground := Ground.phase }, { on := 4, ground := Ground.phase }, { on := 5, ground := Ground.phase }, { on := 6, ground := Ground.phase }, { on := 7, ground := Ground.phase }, { on := 8, ground := Ground.phase }, { on := 9, ground := Ground.phase }, { on := 10, ground := Ground.phase }, { on := 11, ground := Ground.phase }, { on := 12, ground := Ground.phase }, { on := 13, ground := Ground.phase }, { on := 14, ground := Ground.phase }, { on := 15, ground := Ground.phase }, { on := 16, ground := Ground.phase }, { on := 17, ground := Ground.phase }], guard := none }) rfl (fun K hK => ?_) ?_
    rotate_left
    · exact AllReadyH.nil
    go_simp
    refine hK.out _ _ ?_ (fun hHeld => ?_)
    · exact hk2 _ _
    clear hK K
    try simp only [Act.put, List.setIfInBounds_toArray, List.set_cons_zero, List.set_cons_succ]
    refine wpAnyH_done (by kernel_rfl) ?_ _
    go_wp2
    go_end0
    obtain ⟨hfm, hfn⟩ := fnd_some HFD.out
    have hF := H.out.files f hfm
    have hm : Mod (· = f.g) w ((w.setCell ⟨f.g, 0, none⟩ (.slice fa k k)).setCell ⟨f.g, 1, none⟩ (.int .i64 ((min k f.n : Nat) : Int))).drew :=
      (Mod.setCell (S := (· = f.g)) (Mod.setCell (S := (· = f.g)) (Mod.refl _ w) (p := ⟨f.g, 0, none⟩) (.inl rfl) _) (p := ⟨f.g, 1, none⟩) (.inl rfl) _).drew
    have hlen : (f.b.take k).length = k := by have := HK.out; rw [List.length_take]; omega
    have hfb : Fb w (.slice fa k k) (f.b.take k) := by
      have := hF.fb
      rw [HFV.out] at this
      exact this.cut k HK.out
    have hown : ∀ x, (Value.slice fa k k).ownBlock = some x → f.v.ownBlock = some x := fun x hx => by
      rw [HFV.out]
      cases fa <;> exact hx
    have hup := H.out.upd hfm (f' := ⟨f.name, f.b.take k, min k f.n, f.g, .slice fa k k⟩) rfl rfl (fun x hx => .inl (hown x hx)) (hm.mono (fun s hs => .inl hs)) ⟨((hF.blk.set 0 _).set 1 _).drew, hfb.mod hm (fun y hy he => by
      have he : y = f.g := he
      subst he
      exact ne_cells (U := 5) hF.blk hF.fb (hown _ hy) (by decide) rfl), by show min k f.n ≤ (f.b.take k).length; rw [hlen]; omega, by show (f.b.take k).length ≤ _; have := hF.len; have := HK.out; omega, hF.name⟩
    refine ⟨rfl, _, ?_, hup⟩
    have := abs_upd H.out.apart (names_of H.out) hfm (f' := ⟨f.name, f.b.take k, min k f.n, f.g, .slice fa k k⟩) rfl rfl
    rw [this, hfn]
  · go_simp
    refine hK.out _ _ ?_ (fun hHeld => ?_)
    · exact hS0
    clear hK K
    try simp only [Act.put, List.setIfInBounds_toArray, List.set_cons_zero, List.set_cons_succ]
    refine wpAnyH_take (i := 14) (oi := { dst := some 16, op := Op.call { callee := Callee.builtin Builtin.min, args := #[Operand.tmp 11, Operand.tmp 15], argTypes := #[3, 3] }, type := 3, pos := "disk.go:141", after := #[{ on := 9, ground := Ground.data }, { on := 13, ground := Ground.data }], guard := none }) (v := ?_) rfl (by kernel_rfl) (by kernel_rfl) (by kernel_rfl) (fun _ _ _ h => h) (Or.inl ⟨by rfl, ?_⟩) hHeld ?_
    rotate_left
    · intro w' hSw
      obtain ⟨sp, sq⟩ := hSw
      go_simp
      try with_reducible rfl
    try simp only [Act.put, List.setIfInBounds_toArray, List.set_cons_zero, List.set_cons_succ]
    refine wpAnyH_ready (rs := [5]) (by kernel_rfl) (by simp) ?_
    refine AllReadyH.cons (o := { dst := some 7, op := Op.load 22 (Operand.tmp 6), type := 22, pos := "disk.go:141", after := #[{ on := 4, ground := Ground.data }], guard := none }) rfl (fun K hK => ?_) ?_
    rotate_left
    · exact AllReadyH.nil
    go_simp
    refine hK.out _ _ ?_ (fun hHeld => ?_)
    · exact hS0
    clear hK K
    try simp only [Act.put, List.setIfInBounds_toArray, List.set_cons_zero, List.set_cons_succ]
    refine wpAnyH_take (i := 8) (oi := { dst := some 10, op := Op.slice 22 (Operand.tmp 7) none (some (Operand.tmp 8)) (some (Operand.tmp 9)), type := 22, pos := "disk.go:141", after := #[{ on := 5, ground := Ground.data }, { on := 6, ground := Ground.data }, { on := 7, ground := Ground.data }], guard := none }) (v := ?_) rfl (by kernel_rfl) (by kernel_rfl) (by kernel_rfl) (fun _ _ _ h => h) (Or.inl ⟨by rfl, ?_⟩) hHeld ?_
    rotate_left
    · intro w' hSw
      obtain ⟨sp, sq⟩ := hSw
      go_simp
      try with_reducible rfl
    try simp only [Act.put, List.setIfInBounds_toArray, List.set_cons_zero, List.set_cons_succ]
    refine wpAnyH_take (i := 15) (oi := { dst := some 17, op := Op.nilCheck (Operand.tmp 2), type := 0, pos := "disk.go:141", after := #[{ on := 0, ground := Ground.data }, { on := 0, ground := Ground.phase }, { on := 1, ground := Ground.textOnly Departure.inlinedCapture }, { on := 2, ground := Ground.phase }, { on := 3, ground := Ground.phase }, { on := 4, ground := Ground.phase }, { on := 5, ground := Ground.phase }, { on := 6, ground := Ground.phase }, { on := 7, ground := Ground.phase }, { on := 8, ground := Ground.phase }, { on := 9, ground := Ground.textOnly Departure.inlinedCapture }, { on := 10, ground := Ground.textOnly Departure.inlinedCapture }, { on := 11, ground := Ground.textOnly Departure.lateStoresUnsure }, { on := 12, ground := Ground.textOnly Departure.lateStoresUnsure }, { on := 13, ground := Ground.phase }, { on := 14, ground := Ground.textOnly Departure.lateStoresUnsure }], guard := none }) (v := ?_) rfl (by kernel_rfl) (by kernel_rfl) (by kernel_rfl) (fun _ _ _ h => h) (Or.inl ⟨by rfl, ?_⟩) hHeld ?_
    rotate_left
    · intro w' hSw
      obtain ⟨sp, sq⟩ := hSw
      go_simp
      try with_reducible rfl
    try simp only [Act.put, List.setIfInBounds_toArray, List.set_cons_zero, List.set_cons_succ]
    refine wpAnyH_take (i := 16) (oi := { dst := some 18, op := Op.fieldAddr 60 (Operand.tmp 17) 0, type := 0, pos := "disk.go:141", after := #[{ on := 15, ground := Ground.data }, { on := 0, ground := Ground.phase }, { on := 1, ground := Ground.textOnly Departure.inlinedCapture }, { on := 2, ground := Ground.phase }, { on := 3, ground := Ground.phase }, { on := 4, ground := Ground.phase }, { on := 5, ground := Ground.phase }, { on := 6, ground := Ground.phase }, { on := 7, ground := Ground.phase }, { on := 8, ground := Ground.phase }, { on := 9, ground := Ground.textOnly Departure.inlinedCapture }, { on := 10, ground := Ground.textOnly Departure.inlinedCapture }, { on := 11, ground := Ground.textOnly Departure.lateStoresUnsure }, { on := 12, ground := Ground.textOnly Departure.lateStoresUnsure }, { on := 13, ground := Ground.phase }, { on := 14, ground := Ground.textOnly Departure.lateStoresUnsure }], guard := none }) (v := ?_) rfl (by kernel_rfl) (by kernel_rfl) (by kernel_rfl) (fun _ _ _ h => h) (Or.inl ⟨by rfl, ?_⟩) hHeld ?_
    rotate_left
    · intro w' hSw
      obtain ⟨sp, sq⟩ := hSw
      go_simp
      try with_reducible rfl
    try simp only [Act.put, List.setIfInBounds_toArray, List.set_cons_zero, List.set_cons_succ]
    refine wpAnyH_ready (rs := [17]) (by kernel_rfl) (by simp) ?_
    refine AllReadyH.cons (o := { dst := none, op := Op.store 22 (Operand.tmp 18) (Operand.tmp 10), type := 0, pos := "disk.go:141", after := #[{ on := 16, ground := Ground.data }, { on := 8, ground := Ground.data }, { on := 0, ground := Ground.phase }, { on := 1, ground := Ground.textOnly Departure.inlinedCapture }, { on := 2, ground := Ground.phase }, { on := 3, ground := Ground.phase }, { on := 4, ground := Ground.phase }, { on := 5, ground := Ground.phase }, { on := 6, ground := Ground.phase }, { on := 7, ground := Ground.phase }, { on := 8, ground := Ground.phase }, { on := 9, ground := Ground.textOnly Departure.inlinedCapture }, { on := 10, ground := Ground.textOnly Departure.inlinedCapture }, { on := 11, ground := Ground.textOnly Departure.lateStoresUnsure }, { on := 12, ground := Ground.textOnly Departure.lateStoresUnsure }, { on := 13, ground := Ground.phase }, { on := 14, ground := Ground.textOnly Departure.lateStoresUnsure }], guard := none }) rfl (fun K hK => ?_) ?_
    rotate_left
    · exact AllReadyH.nil
    go_simp
    refine hK.out _ _ ?_ (fun hHeld => ?_)
    · exact hk1 _
    clear hK K
    try simp only [Act.put, List.setIfInBounds_toArray, List.set_cons_zero, List.set_cons_succ]
    refine wpAnyH_take (i := 18) (oi := { dst := some 19, op := Op.nilCheck (Operand.tmp 3), type := 0, pos := "disk.go:141", after := #[{ on := 1, ground := Ground.data }, { on := 0, ground := Ground.phase }, { on := 1, ground := Ground.phase }, { on := 2, ground := Ground.phase }, { on := 3, ground := Ground.phase }, { on := 4, ground := Ground.phase }, { on := 5, ground := Ground.phase }, { on := 6, ground := Ground.phase }, { on := 7, ground := Ground.phase }, { on := 8, ground := Ground.phase }, { on := 9, ground := Ground.phase }, { on := 10, ground := Ground.phase }, { on := 11, ground := Ground.phase }, { on := 12, ground := Ground.phase }, { on := 13, ground := Ground.phase }, { on := 14, ground := Ground.phase }, { on := 15, ground := Ground.phase }, { on := 16, ground := Ground.phase }, { on := 17, ground := Ground.phase }], guard := none }) (v := ?_) rfl (by kernel_rfl) (by kernel_rfl) (by kernel_rfl) (fun _ _ _ h => h) (Or.inl ⟨by rfl, ?_⟩) hHeld ?_
    rotate_left
    · intro w' hSw
      obtain ⟨sp, sq⟩ := hSw
      go_simp
      try with_reducible rfl
    try simp only [Act.put, List.setIfInBounds_toArray, List.set_cons_zero, List.set_cons_succ]
    refine wpAnyH_take (i := 19) (oi := { dst := some 20, op := Op.fieldAddr 60 (Operand.tmp 19) 1, type := 0, pos := "disk.go:141", after := #[{ on := 18, ground := Ground.data }, { on := 0, ground := Ground.phase }, { on := 1, ground := Ground.phase }, { on := 2, ground := Ground.phase }, { on := 3, ground := Ground.phase }, { on := 4, ground := Ground.phase }, { on := 5, ground := Ground.phase }, { on := 6, ground := Ground.phase }, { on := 7, ground := Ground.phase }, { on := 8, ground := Ground.phase }, { on := 9, ground := Ground.phase }, { on := 10, ground := Ground.phase }, { on := 11, ground := Ground.phase }, { on := 12, ground := Ground.phase }, { on := 13, ground := Ground.phase }, { on := 14, ground := Ground.phase }, { on := 15, ground := Ground.phase }, { on := 16, ground := Ground.phase }, { on := 17, ground := Ground.phase }], guard := none }) (v := ?_) rfl (by kernel_rfl) (by kernel_rfl) (by kernel_rfl) (fun _ _ _ h => h) (Or.inl ⟨by rfl, ?_⟩) hHeld ?_
    rotate_left
    · intro w' hSw
      obtain ⟨sp, sq⟩ := hSw
      go_simp
      try with_reducible rfl
    try simp only [Act.put, List.setIfInBounds_toArray, List.set_cons_zero, List.set_cons_succ]
    refine wpAnyH_ready (rs := [20]) (by kernel_rfl) (by simp) ?_
    refine AllReadyH.cons (o := { dst := none, op := Op.store 3 (Operand.tmp 20) (Operand.tmp 16), type := 0, pos := "disk.go:141", after := #[{ on := 19, ground := Ground.data }, { on := 14, ground := Ground.data }, { on := 17, ground := Ground.chain }, { on := 0, ground := Ground.phase }, { on := 1, ground := Ground.phase }, { on := 2, ground := Ground.phase }, { on := 3, ground := Ground.phase }, { on := 4, ground := Ground.phase }, { on := 5, ground := Ground.phase }, { on := 6, ground := Ground.phase }, { on := 7, ground := Ground.phase }, { on := 8, ground := Ground.phase }, { on := 9, ground := Ground.phase }, { on := 10, ground := Ground.phase }, { on := 11, ground := Ground.phase }, { on := 12, ground := Ground.phase }, { on := 13, ground := Ground.phase }, { on := 14, ground := Ground.phase }, { on := 15, ground := Ground.phase }, { on := 16, ground := Ground.phase }, { on := 17, ground := Ground.phase }], guard := none }) rfl (fun K hK => ?_) ?_
    rotate_left
    · exact AllReadyH.nil
    go_simp
    refine hK.out _ _ ?_ (fun hHeld => ?_)
    · exact hk2 _ _
    clear hK K
    try simp only [Act.put, List.setIfInBounds_toArray, List.set_cons_zero, List.set_cons_succ]
    refine wpAnyH_done (by kernel_rfl) ?_ _
    go_wp2
    go_end0
    obtain ⟨hfm, hfn⟩ := fnd_some HFD.out
    have hF := H.out.files f hfm
    have hm : Mod (· = f.g) w ((w.setCell ⟨f.g, 0, none⟩ (.slice fa k k)).setCell ⟨f.g, 1, none⟩ (.int .i64 ((min k f.n : Nat) : Int))).drew :=
      (Mod.setCell (S := (· = f.g)) (Mod.setCell (S := (· = f.g)) (Mod.refl _ w) (p := ⟨f.g, 0, none⟩) (.inl rfl) _) (p := ⟨f.g, 1, none⟩) (.inl rfl) _).drew
    have hlen : (f.b.take k).length = k := by have := HK.out; rw [List.length_take]; omega
    have hfb : Fb w (.slice fa k k) (f.b.take k) := by
      have := hF.fb
      rw [HFV.out] at this
      exact this.cut k HK.out
    have hown : ∀ x, (Value.slice fa k k).ownBlock = some x → f.v.ownBlock = some x := fun x hx => by
      rw [HFV.out]
      cases fa <;> exact hx
    have hup := H.out.upd hfm (f' := ⟨f.name, f.b.take k, min k f.n, f.g, .slice fa k k⟩) rfl rfl (fun x hx => .inl (hown x hx)) (hm.mono (fun s hs => .inl hs)) ⟨((hF.blk.set 0 _).set 1 _).drew, hfb.mod hm (fun y hy he => by
      have he : y = f.g := he
      subst he
      exact ne_cells (U := 5) hF.blk hF.fb (hown _ hy) (by decide) rfl), by show min k f.n ≤ (f.b.take k).length; rw [hlen]; omega, by show (f.b.take k).length ≤ _; have := hF.len; have := HK.out; omega, hF.name⟩
    refine ⟨rfl, _, ?_, hup⟩
    have := abs_upd H.out.apart (names_of H.out) hfm (f' := ⟨f.name, f.b.take k, min k f.n, f.g, .slice fa k k⟩) rfl rfl
    rw [this, hfn]
end Go.Proofs.Ytoceddcppbddnaa
