/-
  Encode.
-/
import Derived.Test.YtknaaaphdjdaoaaDoorRt
namespace Go.Proofs.YtknaaaphdjdaoaaDoor
open Go.RowKit Mem
set_option linter.unusedVariables false
set_option linter.unusedSimpArgs false

def bitN (b : Bool) : Int := if b then 1 else 0
set_option maxRecDepth 100000 in
theorem bit_any (b : Bool) (w : World) : Calls Tryd.prog 26 #[.bool b] w fun e w' => e = .returned (.int .i64 (bitN b)) ∧ w' = w := by
  go_enter Tryd.func26, Tryd.ntmps26
  cases b <;> (go_wp2_with (fail); go_ret; exact ⟨rfl, rfl⟩)
/-- A row of ints just built. -/
theorem ri_new (w : World) (zs : List Int) (cs : Array Value) (n : Nat) (hn : zs.length = n) (hcs : ∀ (j : Nat) z, zs[j]? = some z → cs[j]? = some (.int .i64 z)) (hm : n ≤ maxLen) : RI (w.alloc (.cells cs 3)) (.slice (some ⟨w.heap.size, 0, none⟩) n n) zs := by
  subst hn
  refine .inr ⟨⟨w.heap.size, 0, none⟩, zs.length, rfl, Nat.le_refl _, hm, fun j z hj => ?_⟩
  rw [Addr.add_lit, Nat.zero_add, alloc_cell]
  exact hcs j z hj
/-- numbers(b, some numbers of their own ..). -/
theorem put_any (w0 : World) (v : Value) (l : Bs) (zs : List Int) (cs : Array Value) (n : Nat) (hn : zs.length = n) (hcs : ∀ (j : Nat) z, zs[j]? = some z → cs[j]? = some (.int .i64 z)) (hz : ∀ z ∈ zs, 0 ≤ z ∧ z ≤ 9223372036854775807) (hl : l.length + 11 * zs.length ≤ 4194304) (w : World) (hO : Ob w0 w v l) (hm : Mod (fun _ => False) w0 w) :
    Calls Tryd.prog 25 #[v, .slice (some ⟨w.heap.size, 0, none⟩) n n] (w.alloc (.cells cs 3)) fun e w' => ∃ v', e = .returned v' ∧ Ob w0 w' v' (l ++ pnz zs) ∧ Mod (fun _ => False) w0 w' ∧ Nx w v w' v' := by
  have hal : Mod (fun _ => False) w (w.alloc (.cells cs 3)) := (Mod.refl _ w).alloc _
  refine (numbers_any w0 v _ l zs hz hl (w.alloc (.cells cs 3)) (hO.mod hal) (hm.alloc _) (ri_new w zs cs n hn hcs (by rw [← hn]; unfold maxLen; omega)) ?_).mono ?_
  · intro a n' c' he hb
    injection he with he
    injection he with he
    subst he
    rcases hO with ⟨rfl, _⟩ | ⟨g, hg, cap, cur, rfl, hB, _⟩
    · simp [Value.ownBlock] at hb
    · have := hB.lt
      have e : g = w.heap.size := by simpa [Value.ownBlock] using hb
      omega
  · rintro e w' ⟨v', he, h1, h2, h3⟩
    exact ⟨v', he, h1, h2, h3.alloc⟩
-- KINDS
theorem ob_nel {w0 w : World} {v : Value} {l : Bs} {g : Nat} {cs : Array Value} (h : Ob w0 w v l) (hB : Blk w g cs 28) : ¬ v.ownBlock = some g := by
  rcases h with ⟨rfl, _⟩ | ⟨g', hg, cap, cur, rfl, hB', _⟩
  · simp [Value.ownBlock]
  · intro e
    have e2 : g' = g := by simpa [Value.ownBlock] using e
    exact Blk.ne hB' hB (by decide) e2
set_option maxRecDepth 100000 in
set_option maxHeartbeats 3200000 in
/-- Encode of a letter that is not right. -/
theorem enc_bad (kd : Int) (fr tt tm ix lt cm rd si st : Int) (ok : Bool) (e1 n1 d1 : Option Addr) (e2 e3 n2 n3 d2 d3 : Nat) (w : World) (hr : ∀ w', Mod (fun _ => False) w w' → Calls Tryd.prog 12 #[.agg #[.int .i64 kd, .int .i64 fr, .int .i64 tt, .int .i64 tm, .int .i64 ix, .int .i64 lt, .int .i64 cm, .int .i64 rd, .bool ok, .slice e1 e2 e3, .int .i64 si, .int .i64 st, .slice n1 n2 n3, .slice d1 d2 d3]] w' fun en w2 => en = .returned (.bool false) ∧ Mod (fun _ => False) w' w2) :
    Calls Tryd.prog 11 #[.agg #[.int .i64 kd, .int .i64 fr, .int .i64 tt, .int .i64 tm, .int .i64 ix, .int .i64 lt, .int .i64 cm, .int .i64 rd, .bool ok, .slice e1 e2 e3, .int .i64 si, .int .i64 st, .slice n1 n2 n3, .slice d1 d2 d3]] w fun e w' => e = .returned (.tuple #[.slice none 0 0, .int .i64 1]) ∧ Mod (fun _ => False) w w' := by
  have hr1 := hr _ ((Mod.refl _ w).alloc (Obj.cells #[.int .i64 kd, .int .i64 fr, .int .i64 tt, .int .i64 tm, .int .i64 ix, .int .i64 lt, .int .i64 cm, .int .i64 rd, .bool ok, .slice e1 e2 e3, .int .i64 si, .int .i64 st, .slice n1 n2 n3, .slice d1 d2 d3] 28))
  clear hr
  go_enter Tryd.func11, Tryd.ntmps11
  go_wp2_with (fail)
  refine hr1.mono ?_
  rintro e w2 ⟨rfl, hm⟩
  have HM := Lib.hid (md_al hm)
  clear hm hr1
  go_wp2_with (fail)
  go_ret2
  exact ⟨rfl, HM.out⟩
set_option maxRecDepth 100000 in
set_option maxHeartbeats 3200000 in
/-- Encode of an LVote. -/
theorem enc_2 (fr tt tm ix lt cm rd si st : Int) (ok : Bool) (e1 n1 d1 : Option Addr) (e2 e3 n2 n3 d2 d3 : Nat) (w : World) (b1 : 0 ≤ fr ∧ fr ≤ 1000000) (b2 : 0 ≤ tt ∧ tt ≤ 1000000) (b3 : 0 ≤ tm ∧ tm ≤ 1000000) (hr : ∀ w', Mod (fun _ => False) w w' → Calls Tryd.prog 12 #[.agg #[.int .i64 2, .int .i64 fr, .int .i64 tt, .int .i64 tm, .int .i64 ix, .int .i64 lt, .int .i64 cm, .int .i64 rd, .bool ok, .slice e1 e2 e3, .int .i64 si, .int .i64 st, .slice n1 n2 n3, .slice d1 d2 d3]] w' fun en w2 => en = .returned (.bool true) ∧ Mod (fun _ => False) w' w2) :
    Calls Tryd.prog 11 #[.agg #[.int .i64 2, .int .i64 fr, .int .i64 tt, .int .i64 tm, .int .i64 ix, .int .i64 lt, .int .i64 cm, .int .i64 rd, .bool ok, .slice e1 e2 e3, .int .i64 si, .int .i64 st, .slice n1 n2 n3, .slice d1 d2 d3]] w fun e w' => ∃ v, e = .returned (.tuple #[v, .int .i64 0]) ∧ Ob w w' v (pnz [2, fr, tt, tm] ++ pnz [bitN ok]) ∧ Mod (fun _ => False) w w' := by
  have hr1 := hr _ ((Mod.refl _ w).alloc (Obj.cells #[.int .i64 2, .int .i64 fr, .int .i64 tt, .int .i64 tm, .int .i64 ix, .int .i64 lt, .int .i64 cm, .int .i64 rd, .bool ok, .slice e1 e2 e3, .int .i64 si, .int .i64 st, .slice n1 n2 n3, .slice d1 d2 d3] 28))
  have hB := Blk.new w #[.int .i64 2, .int .i64 fr, .int .i64 tt, .int .i64 tm, .int .i64 ix, .int .i64 lt, .int .i64 cm, .int .i64 rd, .bool ok, .slice e1 e2 e3, .int .i64 si, .int .i64 st, .slice n1 n2 n3, .slice d1 d2 d3] 28
  clear hr
  go_enter Tryd.func11, Tryd.ntmps11
  go_wp2_with (fail)
  refine hr1.mono ?_
  rintro e w2 ⟨rfl, hm⟩
  have HB := Lib.hid (hB.mod hm (fun h => h))
  have HM := Lib.hid (md_al hm)
  have c0 : w2.cell? ⟨w.heap.size, 0, none⟩ = some (.int .i64 2) := HB.out.cell 0
  have c1 : w2.cell? ⟨w.heap.size, 1, none⟩ = some (.int .i64 fr) := HB.out.cell 1
  have c2 : w2.cell? ⟨w.heap.size, 2, none⟩ = some (.int .i64 tt) := HB.out.cell 2
  have c3 : w2.cell? ⟨w.heap.size, 3, none⟩ = some (.int .i64 tm) := HB.out.cell 3
  clear hm hr1 hB
  go_wp2_with (fail)
  refine (put_any w (.slice none 0 0) [] [2, fr, tt, tm] _ 4 rfl (fun j z hj => by
    rcases j with _ | _ | _ | _ | j <;> simp at hj ⊢ <;> exact hj) (by
    intro z hz
    simp only [List.mem_cons, List.not_mem_nil, or_false] at hz
    rcases hz with rfl | rfl | rfl | rfl <;> omega) (by simp) w2 (.inl ⟨rfl, rfl⟩) HM.out).mono ?_
  rintro e w3 ⟨v3, rfl, hO3, hm3, hx3⟩
  rw [List.nil_append] at hO3
  have HB3 := Lib.hid (HB.out.mod hx3.1 (fun h => by simp [Value.ownBlock] at h))
  have HO3 := Lib.hid (And.intro hO3 hm3)
  have hl3 : (pnz [2, fr, tt, tm]).length ≤ 44 := pnz_len _
  have HL3 := Lib.hid hl3
  obtain ⟨a3, q3, rfl⟩ := hO3.val
  clear c0 c1 c2 c3 hO3 hm3 hx3 HB HM hl3
  have c0 : w3.cell? ⟨w.heap.size, 0, none⟩ = some (.int .i64 2) := HB3.out.cell 0
  have c8 : w3.cell? ⟨w.heap.size, 8, none⟩ = some (.bool ok) := HB3.out.cell 8
  go_wp2_with (fail)
  refine (bit_any ok w3).mono ?_
  rintro e w4 ⟨rfl, rfl⟩
  go_wp2_with (fail)
  refine (put_any w _ _ [bitN ok] _ 1 rfl (fun j z hj => by
    rcases j with _ | j <;> simp at hj ⊢ <;> exact hj) (by
    intro z hz
    simp only [List.mem_cons, List.not_mem_nil, or_false] at hz
    rcases hz with rfl <;> (try unfold bitN) <;> (try split) <;> omega) (by have := HL3.out; simp; omega) _ HO3.out.1 HO3.out.2).mono ?_
  rintro e w4 ⟨v4, rfl, hO4, hm4, _⟩
  have HF := Lib.hid (And.intro hO4 hm4)
  clear hO4 hm4 HO3
  go_wp2_with (fail)
  go_ret2
  exact ⟨_, rfl, HF.out.1, HF.out.2⟩
set_option maxRecDepth 100000 in
set_option maxHeartbeats 3200000 in
/-- Encode of an LAnswer. -/
theorem enc_4 (fr tt tm ix lt cm rd si st : Int) (ok : Bool) (e1 n1 d1 : Option Addr) (e2 e3 n2 n3 d2 d3 : Nat) (w : World) (b1 : 0 ≤ fr ∧ fr ≤ 1000000) (b2 : 0 ≤ tt ∧ tt ≤ 1000000) (b3 : 0 ≤ tm ∧ tm ≤ 1000000) (b4 : 0 ≤ ix ∧ ix ≤ 1000000) (b5 : 0 ≤ rd ∧ rd ≤ 1073741824) (hr : ∀ w', Mod (fun _ => False) w w' → Calls Tryd.prog 12 #[.agg #[.int .i64 4, .int .i64 fr, .int .i64 tt, .int .i64 tm, .int .i64 ix, .int .i64 lt, .int .i64 cm, .int .i64 rd, .bool ok, .slice e1 e2 e3, .int .i64 si, .int .i64 st, .slice n1 n2 n3, .slice d1 d2 d3]] w' fun en w2 => en = .returned (.bool true) ∧ Mod (fun _ => False) w' w2) :
    Calls Tryd.prog 11 #[.agg #[.int .i64 4, .int .i64 fr, .int .i64 tt, .int .i64 tm, .int .i64 ix, .int .i64 lt, .int .i64 cm, .int .i64 rd, .bool ok, .slice e1 e2 e3, .int .i64 si, .int .i64 st, .slice n1 n2 n3, .slice d1 d2 d3]] w fun e w' => ∃ v, e = .returned (.tuple #[v, .int .i64 0]) ∧ Ob w w' v (pnz [4, fr, tt, tm] ++ pnz [bitN ok, ix, rd]) ∧ Mod (fun _ => False) w w' := by
  have hr1 := hr _ ((Mod.refl _ w).alloc (Obj.cells #[.int .i64 4, .int .i64 fr, .int .i64 tt, .int .i64 tm, .int .i64 ix, .int .i64 lt, .int .i64 cm, .int .i64 rd, .bool ok, .slice e1 e2 e3, .int .i64 si, .int .i64 st, .slice n1 n2 n3, .slice d1 d2 d3] 28))
  have hB := Blk.new w #[.int .i64 4, .int .i64 fr, .int .i64 tt, .int .i64 tm, .int .i64 ix, .int .i64 lt, .int .i64 cm, .int .i64 rd, .bool ok, .slice e1 e2 e3, .int .i64 si, .int .i64 st, .slice n1 n2 n3, .slice d1 d2 d3] 28
  clear hr
  go_enter Tryd.func11, Tryd.ntmps11
  go_wp2_with (fail)
  refine hr1.mono ?_
  rintro e w2 ⟨rfl, hm⟩
  have HB := Lib.hid (hB.mod hm (fun h => h))
  have HM := Lib.hid (md_al hm)
  have c0 : w2.cell? ⟨w.heap.size, 0, none⟩ = some (.int .i64 4) := HB.out.cell 0
  have c1 : w2.cell? ⟨w.heap.size, 1, none⟩ = some (.int .i64 fr) := HB.out.cell 1
  have c2 : w2.cell? ⟨w.heap.size, 2, none⟩ = some (.int .i64 tt) := HB.out.cell 2
  have c3 : w2.cell? ⟨w.heap.size, 3, none⟩ = some (.int .i64 tm) := HB.out.cell 3
  clear hm hr1 hB
  go_wp2_with (fail)
  refine (put_any w (.slice none 0 0) [] [4, fr, tt, tm] _ 4 rfl (fun j z hj => by
    rcases j with _ | _ | _ | _ | j <;> simp at hj ⊢ <;> exact hj) (by
    intro z hz
    simp only [List.mem_cons, List.not_mem_nil, or_false] at hz
    rcases hz with rfl | rfl | rfl | rfl <;> omega) (by simp) w2 (.inl ⟨rfl, rfl⟩) HM.out).mono ?_
  rintro e w3 ⟨v3, rfl, hO3, hm3, hx3⟩
  rw [List.nil_append] at hO3
  have HB3 := Lib.hid (HB.out.mod hx3.1 (fun h => by simp [Value.ownBlock] at h))
  have HO3 := Lib.hid (And.intro hO3 hm3)
  have hl3 : (pnz [4, fr, tt, tm]).length ≤ 44 := pnz_len _
  have HL3 := Lib.hid hl3
  obtain ⟨a3, q3, rfl⟩ := hO3.val
  clear c0 c1 c2 c3 hO3 hm3 hx3 HB HM hl3
  have c0 : w3.cell? ⟨w.heap.size, 0, none⟩ = some (.int .i64 4) := HB3.out.cell 0
  have hne := ob_nel HO3.out.1 HB3.out
  have HX : Hid (∀ w', Mod (fun b => (Value.slice a3 (pnz [4, fr, tt, tm]).length q3).ownBlock = some b) w3 w' → w'.cell? ⟨w.heap.size, 8, none⟩ = some (.bool ok) ∧ w'.cell? ⟨w.heap.size, 4, none⟩ = some (.int .i64 ix) ∧ w'.cell? ⟨w.heap.size, 7, none⟩ = some (.int .i64 rd)) := Lib.hid (fun w' hm => ⟨(HB3.out.mod hm hne).cell 8, (HB3.out.mod hm hne).cell 4, (HB3.out.mod hm hne).cell 7⟩)
  clear hne
  go_wp2_with (fail)
  refine wp_region_held_drew (S := fun w' => Mod (fun b => (Value.slice a3 (pnz [4, fr, tt, tm]).length q3).ownBlock = some b) w3 w') (by kernel_rfl) (Mod.refl _ w3).drew (fun hHeld => ?_)
  refine wpAnyH_take (i := 0) (oi := { dst := some 41, op := Op.move (Operand.tmp 4), type := 24, pos := "wire.go:111", after := #[], guard := none }) (v := ?_) rfl (by kernel_rfl) (by kernel_rfl) (by kernel_rfl) (fun _ _ _ h => h) (Or.inl ⟨by rfl, ?_⟩) hHeld ?_
  rotate_left
  · intro w' hSw
    go_simp
    try with_reducible rfl
  try simp only [Act.put, List.setIfInBounds_toArray, List.set_cons_zero, List.set_cons_succ]
  refine wpAnyH_take (i := 1) (oi := { dst := some 42, op := Op.fieldAddr 28 (Operand.tmp 1) 8, type := 0, pos := "wire.go:111", after := #[], guard := none }) (v := ?_) rfl (by kernel_rfl) (by kernel_rfl) (by kernel_rfl) (fun _ _ _ h => h) (Or.inl ⟨by rfl, ?_⟩) hHeld ?_
  rotate_left
  · intro w' hSw
    go_simp
    try with_reducible rfl
  try simp only [Act.put, List.setIfInBounds_toArray, List.set_cons_zero, List.set_cons_succ]
  refine wpAnyH_take (i := 2) (oi := { dst := some 43, op := Op.load 4 (Operand.tmp 42), type := 4, pos := "wire.go:111", after := #[{ on := 1, ground := Ground.data }], guard := none }) (v := ?_) rfl (by kernel_rfl) (by kernel_rfl) (by kernel_rfl) (fun _ _ _ h => h) (Or.inl ⟨by rfl, ?_⟩) hHeld ?_
  rotate_left
  · intro w' hSw
    obtain ⟨y1, y2, y3⟩ := HX.out w' hSw
    go_simp
    try with_reducible rfl
  try simp only [Act.put, List.setIfInBounds_toArray, List.set_cons_zero, List.set_cons_succ]
  refine wpAnyH_take (i := 4) (oi := { dst := some 45, op := Op.fieldAddr 28 (Operand.tmp 1) 4, type := 0, pos := "wire.go:111", after := #[], guard := none }) (v := ?_) rfl (by kernel_rfl) (by kernel_rfl) (by kernel_rfl) (fun _ _ _ h => h) (Or.inl ⟨by rfl, ?_⟩) hHeld ?_
  rotate_left
  · intro w' hSw
    go_simp
    try with_reducible rfl
  try simp only [Act.put, List.setIfInBounds_toArray, List.set_cons_zero, List.set_cons_succ]
  refine wpAnyH_take (i := 5) (oi := { dst := some 46, op := Op.load 3 (Operand.tmp 45), type := 3, pos := "wire.go:111", after := #[{ on := 4, ground := Ground.data }], guard := none }) (v := ?_) rfl (by kernel_rfl) (by kernel_rfl) (by kernel_rfl) (fun _ _ _ h => h) (Or.inl ⟨by rfl, ?_⟩) hHeld ?_
  rotate_left
  · intro w' hSw
    obtain ⟨y1, y2, y3⟩ := HX.out w' hSw
    go_simp
    try with_reducible rfl
  try simp only [Act.put, List.setIfInBounds_toArray, List.set_cons_zero, List.set_cons_succ]
  refine wpAnyH_take (i := 6) (oi := { dst := some 47, op := Op.fieldAddr 28 (Operand.tmp 1) 7, type := 0, pos := "wire.go:111", after := #[], guard := none }) (v := ?_) rfl (by kernel_rfl) (by kernel_rfl) (by kernel_rfl) (fun _ _ _ h => h) (Or.inl ⟨by rfl, ?_⟩) hHeld ?_
  rotate_left
  · intro w' hSw
    go_simp
    try with_reducible rfl
  try simp only [Act.put, List.setIfInBounds_toArray, List.set_cons_zero, List.set_cons_succ]
  refine wpAnyH_take (i := 7) (oi := { dst := some 48, op := Op.load 3 (Operand.tmp 47), type := 3, pos := "wire.go:111", after := #[{ on := 6, ground := Ground.data }], guard := none }) (v := ?_) rfl (by kernel_rfl) (by kernel_rfl) (by kernel_rfl) (fun _ _ _ h => h) (Or.inl ⟨by rfl, ?_⟩) hHeld ?_
  rotate_left
  · intro w' hSw
    obtain ⟨y1, y2, y3⟩ := HX.out w' hSw
    go_simp
    try with_reducible rfl
  try simp only [Act.put, List.setIfInBounds_toArray, List.set_cons_zero, List.set_cons_succ]
  refine wpAnyH_ready (rs := [3]) (by kernel_rfl) (by simp) ?_
  refine AllReadyH.cons (o := { dst := some 44, op := Op.call { callee := Callee.value (Operand.func 26), args := #[Operand.tmp 43], argTypes := #[4] }, type := 3, pos := "wire.go:111", after := #[{ on := 2, ground := Ground.data }], guard := none }) rfl (fun K hK => ?_) ?_
  rotate_left
  · exact AllReadyH.nil
  go_simp
  refine (bit_any ok _).mono ?_
  rintro e w4 ⟨rfl, rfl⟩
  refine hK.out _ _ hHeld (fun hHeld => ?_)
  clear hK K
  try simp only [Act.put, List.setIfInBounds_toArray, List.set_cons_zero, List.set_cons_succ]
  refine wpAnyH_ready (rs := [8]) (by kernel_rfl) (by simp) ?_
  refine AllReadyH.cons (o := { dst := some 49, op := Op.buildSlice 23 3 #[(0, Operand.tmp 44), (1, Operand.tmp 46), (2, Operand.tmp 48)], type := 23, pos := "wire.go:111", after := #[{ on := 3, ground := Ground.data }, { on := 5, ground := Ground.data }, { on := 7, ground := Ground.data }], guard := none }) rfl (fun K hK => ?_) ?_
  rotate_left
  · exact AllReadyH.nil
  go_simp
  refine hK.out _ _ (hHeld.alloc _) (fun hHeld => ?_)
  clear hK K
  try simp only [Act.put, List.setIfInBounds_toArray, List.set_cons_zero, List.set_cons_succ]
  refine wpAnyH_ready (rs := [9]) (by kernel_rfl) (by simp) ?_
  refine AllReadyH.cons (o := { dst := some 50, op := Op.call { callee := Callee.value (Operand.func 25), args := #[Operand.tmp 41, Operand.tmp 49], argTypes := #[24, 23] }, type := 24, pos := "wire.go:111", after := #[{ on := 0, ground := Ground.data }, { on := 8, ground := Ground.data }, { on := 3, ground := Ground.chain }], guard := none }) rfl (fun K hK => ?_) ?_
  rotate_left
  · exact AllReadyH.nil
  go_simp
  refine (put_any w _ _ [bitN ok, ix, rd] _ 3 rfl (fun j z hj => by
    rcases j with _ | _ | _ | j <;> simp at hj ⊢ <;> exact hj) (by
    intro z hz
    simp only [List.mem_cons, List.not_mem_nil, or_false] at hz
    rcases hz with rfl | rfl | rfl <;> (try unfold bitN) <;> (try split) <;> omega) (by have := HL3.out; simp; omega) w3.drew (HO3.out.1.mod (Mod.refl _ w3).drew) HO3.out.2.drew).mono ?_
  rintro e w4 ⟨v4, rfl, hO4, hm4, hx4⟩
  have HF := Lib.hid (And.intro hO4 hm4)
  refine hK.out _ _ (Mod.trans (T := fun b => (Value.slice a3 (pnz [4, fr, tt, tm]).length q3).ownBlock = some b) (Mod.refl _ w3).drew hx4.1 (fun i hi => .inl hi)) (fun hHeld => ?_)
  clear hK K
  try simp only [Act.put, List.setIfInBounds_toArray, List.set_cons_zero, List.set_cons_succ]
  refine wpAnyH_take (i := 10) (oi := { dst := some 2, op := Op.assign (Operand.tmp 50), type := 24, pos := "wire.go:111", after := #[{ on := 9, ground := Ground.data }, { on := 9, ground := Ground.chain }, { on := 0, ground := Ground.phase }, { on := 1, ground := Ground.phase }, { on := 2, ground := Ground.phase }, { on := 3, ground := Ground.phase }, { on := 4, ground := Ground.phase }, { on := 5, ground := Ground.phase }, { on := 6, ground := Ground.phase }, { on := 7, ground := Ground.phase }, { on := 8, ground := Ground.phase }, { on := 9, ground := Ground.phase }], guard := none }) (v := ?_) rfl (by kernel_rfl) (by kernel_rfl) (by kernel_rfl) (fun _ _ _ h => h) (Or.inl ⟨by rfl, ?_⟩) hHeld ?_
  rotate_left
  · intro w' hSw
    go_simp
    try with_reducible rfl
  try simp only [Act.put, List.setIfInBounds_toArray, List.set_cons_zero, List.set_cons_succ]
  refine wpAnyH_take (i := 11) (oi := { dst := some 3, op := Op.assign (Operand.const (Value.int IntKind.i64 0)), type := 31, pos := "wire.go:111", after := #[{ on := 10, ground := Ground.chain }, { on := 0, ground := Ground.phase }, { on := 1, ground := Ground.phase }, { on := 2, ground := Ground.phase }, { on := 3, ground := Ground.phase }, { on := 4, ground := Ground.phase }, { on := 5, ground := Ground.phase }, { on := 6, ground := Ground.phase }, { on := 7, ground := Ground.phase }, { on := 8, ground := Ground.phase }, { on := 9, ground := Ground.phase }, { on := 10, ground := Ground.phase }], guard := none }) (v := ?_) rfl (by kernel_rfl) (by kernel_rfl) (by kernel_rfl) (fun _ _ _ h => h) (Or.inl ⟨by rfl, ?_⟩) hHeld ?_
  rotate_left
  · intro w' hSw
    go_simp
    try with_reducible rfl
  try simp only [Act.put, List.setIfInBounds_toArray, List.set_cons_zero, List.set_cons_succ]
  refine wpAnyH_done (by kernel_rfl) ?_ _
  go_wp2_with (fail)
  go_ret2
  exact ⟨_, rfl, HF.out.1, HF.out.2⟩
end Go.Proofs.YtknaaaphdjdaoaaDoor
