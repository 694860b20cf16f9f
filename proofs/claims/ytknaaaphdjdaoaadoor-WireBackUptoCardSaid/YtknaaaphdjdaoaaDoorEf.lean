/-
  Encode, of an LInstall.
-/
import Derived.Test.YtknaaaphdjdaoaaDoorEh
namespace Go.Proofs.YtknaaaphdjdaoaaDoor
open Go.RowKit Mem
set_option linter.unusedVariables false
set_option linter.unusedSimpArgs false

theorem enc5_len {a : Bs} {n : Nat} (h : a.length ≤ 77) (h3 : n ≤ 5) : a.length + 11 * n ≤ 4194304 := by omega
theorem enc5_fin {w w5 W : World} {v5 v : Value} {P0 P1 P2 P3 P4 sd L3 L4 L5 L6 L7 L8 : Bs} (e3 : P0 = L3) (e4 : L3 ++ P1 = L4) (e5 : L4 ++ P2 = L5) (e6 : L5 ++ P3 = L6) (e7 : L6 ++ sd = L7) (e8 : L7 ++ P4 = L8) (h : ES w w5 v5 W v L8) :
    Ob w W v (P0 ++ P1 ++ P2 ++ P3 ++ sd ++ P4) ∧ Mod (fun _ => False) w W := by
  subst e3 e4 e5 e6 e7 e8
  exact ⟨h.1, h.2.1⟩
set_option maxRecDepth 100000 in
set_option maxHeartbeats 25600000 in
theorem enc_5 (fr tt tm ix lt cm rd si st : Int) (ok : Bool) (sn : List Int) (sd : Bs) (e1 n1 d1 : Option Addr) (e2 e3 n2 n3 d2 d3 : Nat) (w : World) (b1 : 0 ≤ fr ∧ fr ≤ 1000000) (b2 : 0 ≤ tt ∧ tt ≤ 1000000) (b3 : 0 ≤ tm ∧ tm ≤ 1000000) (b4 : 0 ≤ si ∧ si ≤ 1000000) (b5 : 0 ≤ st ∧ st ≤ 1000000) (b6 : 0 ≤ rd ∧ rd ≤ 1073741824) (b7 : ∀ z ∈ sn, 0 ≤ z ∧ z ≤ 5) (b8 : sn.length ≤ 5) (bne : sn ≠ []) (b9 : sd.length ≤ 300000) (hsn : RI w (.slice n1 n2 n3) sn) (hsd : RdC w (.slice d1 d2 d3) sd) (hr : ∀ w', Mod (fun _ => False) w w' → Calls Tryd.prog 12 #[.agg #[.int .i64 5, .int .i64 fr, .int .i64 tt, .int .i64 tm, .int .i64 ix, .int .i64 lt, .int .i64 cm, .int .i64 rd, .bool ok, .slice e1 e2 e3, .int .i64 si, .int .i64 st, .slice n1 n2 n3, .slice d1 d2 d3]] w' fun en w2 => en = .returned (.bool true) ∧ Mod (fun _ => False) w' w2) :
    Calls Tryd.prog 11 #[.agg #[.int .i64 5, .int .i64 fr, .int .i64 tt, .int .i64 tm, .int .i64 ix, .int .i64 lt, .int .i64 cm, .int .i64 rd, .bool ok, .slice e1 e2 e3, .int .i64 si, .int .i64 st, .slice n1 n2 n3, .slice d1 d2 d3]] w fun e w' => ∃ v, e = .returned (.tuple #[v, .int .i64 0]) ∧ Ob w w' v (pnz [5, fr, tt, tm] ++ pnz [si, st, (sn.length : Int)] ++ pnz sn ++ pnz [(sd.length : Int)] ++ sd ++ pnz [rd]) ∧ Mod (fun _ => False) w w' := by
  obtain rfl : sn.length = n2 := hsn.len
  obtain rfl : sd.length = d2 := hsd.len
  have HSN : Hid (RI w (.slice n1 sn.length n3) sn ∧ ∀ a n c, (Value.slice n1 sn.length n3) = .slice (some a) n c → a.block < w.heap.size) := Lib.hid ⟨hsn, fun a n c h => ri_old (by rw [← h]; exact hsn) bne⟩
  have HSD := Lib.hid hsd
  clear hsn hsd
  have hr1 := hr _ ((Mod.refl _ w).alloc (Obj.cells #[.int .i64 5, .int .i64 fr, .int .i64 tt, .int .i64 tm, .int .i64 ix, .int .i64 lt, .int .i64 cm, .int .i64 rd, .bool ok, .slice e1 e2 e3, .int .i64 si, .int .i64 st, .slice n1 sn.length n3, .slice d1 sd.length d3] 28))
  have hB := Blk.new w #[.int .i64 5, .int .i64 fr, .int .i64 tt, .int .i64 tm, .int .i64 ix, .int .i64 lt, .int .i64 cm, .int .i64 rd, .bool ok, .slice e1 e2 e3, .int .i64 si, .int .i64 st, .slice n1 sn.length n3, .slice d1 sd.length d3] 28
  clear hr
  go_enter Tryd.func11, Tryd.ntmps11
  go_wp2_with (fail)
  refine hr1.mono ?_
  rintro e w2 ⟨rfl, hm⟩
  have HB := Lib.hid (hB.mod hm (fun h => h))
  have HM := Lib.hid (md_al hm)
  have c0 : w2.cell? ⟨w.heap.size, 0, none⟩ = some (.int .i64 5) := HB.out.cell 0
  have c1 : w2.cell? ⟨w.heap.size, 1, none⟩ = some (.int .i64 fr) := HB.out.cell 1
  have c2 : w2.cell? ⟨w.heap.size, 2, none⟩ = some (.int .i64 tt) := HB.out.cell 2
  have c3 : w2.cell? ⟨w.heap.size, 3, none⟩ = some (.int .i64 tm) := HB.out.cell 3
  clear hm hr1 hB
  go_wp2_with (fail)
  refine (put_any w (.slice none 0 0) [] [5, fr, tt, tm] _ 4 rfl (fun j z hj => by
    rcases j with _ | _ | _ | _ | j <;> simp at hj ⊢ <;> exact hj) (by
    intro z hz
    simp only [List.mem_cons, List.not_mem_nil, or_false] at hz
    rcases hz with rfl | rfl | rfl | rfl <;> omega) (by simp) w2 (.inl ⟨rfl, rfl⟩) HM.out).mono ?_
  rintro e w3 ⟨v3, rfl, hO3, hm3, hx3⟩
  rw [List.nil_append] at hO3
  obtain ⟨L3, E3⟩ : ∃ L, pnz [5, fr, tt, tm] = L := ⟨_, rfl⟩
  have hl3 : L3.length ≤ 44 := by rw [← E3]; exact pnz_len _
  rw [E3] at hO3
  have HE3 := Lib.hid E3
  clear E3
  have HB3 := Lib.hid (HB.out.mod hx3.1 (fun h => by simp [Value.ownBlock] at h))
  have HO3 := Lib.hid (And.intro hO3 hm3)
  have HL3 := Lib.hid hl3
  obtain ⟨a3, q3, rfl⟩ := hO3.val
  clear c0 c1 c2 c3 hO3 hm3 hx3 HB HM hl3
  have c0 : w3.cell? ⟨w.heap.size, 0, none⟩ = some (.int .i64 5) := HB3.out.cell 0
  have hne := ob_nel HO3.out.1 HB3.out
  have HX : Hid (∀ w', Mod (fun b => (Value.slice a3 L3.length q3).ownBlock = some b) w3 w' → w'.cell? ⟨w.heap.size, 10, none⟩ = some (.int .i64 si) ∧ w'.cell? ⟨w.heap.size, 11, none⟩ = some (.int .i64 st) ∧ w'.cell? ⟨w.heap.size, 12, none⟩ = some (.slice n1 sn.length n3)) := Lib.hid (fun w' hm => ⟨(HB3.out.mod hm hne).cell 10, (HB3.out.mod hm hne).cell 11, (HB3.out.mod hm hne).cell 12⟩)
  clear hne
  go_wp2_with (fail)
  refine wp_region_held_drew (S := fun w' => Mod (fun b => (Value.slice a3 L3.length q3).ownBlock = some b) w3 w') (by kernel_rfl) (Mod.refl _ w3).drew (fun hHeld => ?_)
  refine wpAnyH_take (i := 0) (oi := { dst := some 53, op := Op.move (Operand.tmp 4), type := 24, pos := "wire.go:113", after := #[], guard := none }) (v := ?_) rfl (by kernel_rfl) (by kernel_rfl) (by kernel_rfl) (fun _ _ _ h => h) (Or.inl ⟨by rfl, ?_⟩) hHeld ?_
  rotate_left
  · intro w' hSw
    go_simp
    try with_reducible rfl
  try simp only [Act.put, List.setIfInBounds_toArray, List.set_cons_zero, List.set_cons_succ]
  refine wpAnyH_take (i := 1) (oi := { dst := some 54, op := Op.fieldAddr 28 (Operand.tmp 1) 10, type := 0, pos := "wire.go:113", after := #[], guard := none }) (v := ?_) rfl (by kernel_rfl) (by kernel_rfl) (by kernel_rfl) (fun _ _ _ h => h) (Or.inl ⟨by rfl, ?_⟩) hHeld ?_
  rotate_left
  · intro w' hSw
    go_simp
    try with_reducible rfl
  try simp only [Act.put, List.setIfInBounds_toArray, List.set_cons_zero, List.set_cons_succ]
  refine wpAnyH_take (i := 2) (oi := { dst := some 55, op := Op.fieldAddr 26 (Operand.tmp 54) 0, type := 0, pos := "wire.go:113", after := #[{ on := 1, ground := Ground.data }], guard := none }) (v := ?_) rfl (by kernel_rfl) (by kernel_rfl) (by kernel_rfl) (fun _ _ _ h => h) (Or.inl ⟨by rfl, ?_⟩) hHeld ?_
  rotate_left
  · intro w' hSw
    go_simp
    try with_reducible rfl
  try simp only [Act.put, List.setIfInBounds_toArray, List.set_cons_zero, List.set_cons_succ]
  refine wpAnyH_take (i := 3) (oi := { dst := some 56, op := Op.load 3 (Operand.tmp 55), type := 3, pos := "wire.go:113", after := #[{ on := 2, ground := Ground.data }], guard := none }) (v := ?_) rfl (by kernel_rfl) (by kernel_rfl) (by kernel_rfl) (fun _ _ _ h => h) (Or.inl ⟨by rfl, ?_⟩) hHeld ?_
  rotate_left
  · intro w' hSw
    obtain ⟨y1, y2, y3⟩ := HX.out w' hSw
    go_simp
    try with_reducible rfl
  try simp only [Act.put, List.setIfInBounds_toArray, List.set_cons_zero, List.set_cons_succ]
  refine wpAnyH_take (i := 4) (oi := { dst := some 57, op := Op.fieldAddr 28 (Operand.tmp 1) 10, type := 0, pos := "wire.go:113", after := #[], guard := none }) (v := ?_) rfl (by kernel_rfl) (by kernel_rfl) (by kernel_rfl) (fun _ _ _ h => h) (Or.inl ⟨by rfl, ?_⟩) hHeld ?_
  rotate_left
  · intro w' hSw
    go_simp
    try with_reducible rfl
  try simp only [Act.put, List.setIfInBounds_toArray, List.set_cons_zero, List.set_cons_succ]
  refine wpAnyH_take (i := 5) (oi := { dst := some 58, op := Op.fieldAddr 26 (Operand.tmp 57) 1, type := 0, pos := "wire.go:113", after := #[{ on := 4, ground := Ground.data }], guard := none }) (v := ?_) rfl (by kernel_rfl) (by kernel_rfl) (by kernel_rfl) (fun _ _ _ h => h) (Or.inl ⟨by rfl, ?_⟩) hHeld ?_
  rotate_left
  · intro w' hSw
    go_simp
    try with_reducible rfl
  try simp only [Act.put, List.setIfInBounds_toArray, List.set_cons_zero, List.set_cons_succ]
  refine wpAnyH_take (i := 6) (oi := { dst := some 59, op := Op.load 3 (Operand.tmp 58), type := 3, pos := "wire.go:113", after := #[{ on := 5, ground := Ground.data }], guard := none }) (v := ?_) rfl (by kernel_rfl) (by kernel_rfl) (by kernel_rfl) (fun _ _ _ h => h) (Or.inl ⟨by rfl, ?_⟩) hHeld ?_
  rotate_left
  · intro w' hSw
    obtain ⟨y1, y2, y3⟩ := HX.out w' hSw
    go_simp
    try with_reducible rfl
  try simp only [Act.put, List.setIfInBounds_toArray, List.set_cons_zero, List.set_cons_succ]
  refine wpAnyH_take (i := 7) (oi := { dst := some 60, op := Op.fieldAddr 28 (Operand.tmp 1) 10, type := 0, pos := "wire.go:113", after := #[], guard := none }) (v := ?_) rfl (by kernel_rfl) (by kernel_rfl) (by kernel_rfl) (fun _ _ _ h => h) (Or.inl ⟨by rfl, ?_⟩) hHeld ?_
  rotate_left
  · intro w' hSw
    go_simp
    try with_reducible rfl
  try simp only [Act.put, List.setIfInBounds_toArray, List.set_cons_zero, List.set_cons_succ]
  refine wpAnyH_take (i := 8) (oi := { dst := some 61, op := Op.fieldAddr 26 (Operand.tmp 60) 2, type := 0, pos := "wire.go:113", after := #[{ on := 7, ground := Ground.data }], guard := none }) (v := ?_) rfl (by kernel_rfl) (by kernel_rfl) (by kernel_rfl) (fun _ _ _ h => h) (Or.inl ⟨by rfl, ?_⟩) hHeld ?_
  rotate_left
  · intro w' hSw
    go_simp
    try with_reducible rfl
  try simp only [Act.put, List.setIfInBounds_toArray, List.set_cons_zero, List.set_cons_succ]
  refine wpAnyH_take (i := 9) (oi := { dst := some 62, op := Op.load 23 (Operand.tmp 61), type := 23, pos := "wire.go:113", after := #[{ on := 8, ground := Ground.data }], guard := none }) (v := ?_) rfl (by kernel_rfl) (by kernel_rfl) (by kernel_rfl) (fun _ _ _ h => h) (Or.inl ⟨by rfl, ?_⟩) hHeld ?_
  rotate_left
  · intro w' hSw
    obtain ⟨y1, y2, y3⟩ := HX.out w' hSw
    go_simp
    try with_reducible rfl
  try simp only [Act.put, List.setIfInBounds_toArray, List.set_cons_zero, List.set_cons_succ]
  refine wpAnyH_take (i := 10) (oi := { dst := some 63, op := Op.call { callee := Callee.builtin Builtin.len, args := #[Operand.tmp 62], argTypes := #[23] }, type := 3, pos := "wire.go:113", after := #[{ on := 9, ground := Ground.data }], guard := none }) (v := ?_) rfl (by kernel_rfl) (by kernel_rfl) (by kernel_rfl) (fun _ _ _ h => h) (Or.inl ⟨by rfl, ?_⟩) hHeld ?_
  rotate_left
  · intro w' hSw
    go_simp
    try with_reducible rfl
  try simp only [Act.put, List.setIfInBounds_toArray, List.set_cons_zero, List.set_cons_succ]
  refine wpAnyH_take (i := 13) (oi := { dst := some 66, op := Op.fieldAddr 28 (Operand.tmp 1) 10, type := 0, pos := "wire.go:113", after := #[], guard := none }) (v := ?_) rfl (by kernel_rfl) (by kernel_rfl) (by kernel_rfl) (fun _ _ _ h => h) (Or.inl ⟨by rfl, ?_⟩) hHeld ?_
  rotate_left
  · intro w' hSw
    go_simp
    try with_reducible rfl
  try simp only [Act.put, List.setIfInBounds_toArray, List.set_cons_zero, List.set_cons_succ]
  refine wpAnyH_take (i := 14) (oi := { dst := some 67, op := Op.fieldAddr 26 (Operand.tmp 66) 2, type := 0, pos := "wire.go:113", after := #[{ on := 13, ground := Ground.data }], guard := none }) (v := ?_) rfl (by kernel_rfl) (by kernel_rfl) (by kernel_rfl) (fun _ _ _ h => h) (Or.inl ⟨by rfl, ?_⟩) hHeld ?_
  rotate_left
  · intro w' hSw
    go_simp
    try with_reducible rfl
  try simp only [Act.put, List.setIfInBounds_toArray, List.set_cons_zero, List.set_cons_succ]
  refine wpAnyH_take (i := 15) (oi := { dst := some 68, op := Op.load 23 (Operand.tmp 67), type := 23, pos := "wire.go:113", after := #[{ on := 14, ground := Ground.data }], guard := none }) (v := ?_) rfl (by kernel_rfl) (by kernel_rfl) (by kernel_rfl) (fun _ _ _ h => h) (Or.inl ⟨by rfl, ?_⟩) hHeld ?_
  rotate_left
  · intro w' hSw
    obtain ⟨y1, y2, y3⟩ := HX.out w' hSw
    go_simp
    try with_reducible rfl
  try simp only [Act.put, List.setIfInBounds_toArray, List.set_cons_zero, List.set_cons_succ]
  refine wpAnyH_ready (rs := [11]) (by kernel_rfl) (by simp) ?_
  refine AllReadyH.cons (o := { dst := some 64, op := Op.buildSlice 23 3 #[(0, Operand.tmp 56), (1, Operand.tmp 59), (2, Operand.tmp 63)], type := 23, pos := "wire.go:113", after := #[{ on := 3, ground := Ground.data }, { on := 6, ground := Ground.data }, { on := 10, ground := Ground.data }], guard := none }) rfl (fun K hK => ?_) ?_
  rotate_left
  · exact AllReadyH.nil
  go_simp
  refine hK.out _ _ (hHeld.alloc _) (fun _ => ?_)
  clear hK K
  try simp only [Act.put, List.setIfInBounds_toArray, List.set_cons_zero, List.set_cons_succ]
  refine wpAnyH_ready (rs := [12]) (by kernel_rfl) (by simp) ?_
  refine AllReadyH.cons (o := { dst := some 65, op := Op.call { callee := Callee.value (Operand.func 25), args := #[Operand.tmp 53, Operand.tmp 64], argTypes := #[24, 23] }, type := 24, pos := "wire.go:113", after := #[{ on := 0, ground := Ground.data }, { on := 11, ground := Ground.data }], guard := none }) rfl (fun K hK => ?_) ?_
  rotate_left
  · exact AllReadyH.nil
  go_simp
  refine (put_any w _ _ [si, st, (sn.length : Int)] _ 3 rfl (fun j z hj => by
    rcases j with _ | _ | _ | j <;> simp at hj ⊢ <;> exact hj) (by
    intro z hz
    simp only [List.mem_cons, List.not_mem_nil, or_false] at hz
    rcases hz with rfl | rfl | rfl <;> omega) (by have := HL3.out; simp; omega) w3.drew (HO3.out.1.mod (Mod.refl _ w3).drew) HO3.out.2.drew).mono ?_
  rintro e w4 ⟨v4, rfl, hO4, hm4, hx4⟩
  obtain ⟨L4, E4⟩ : ∃ L, L3 ++ pnz [si, st, (sn.length : Int)] = L := ⟨_, rfl⟩
  have hl4 : L4.length ≤ 77 := by rw [← E4, List.length_append]; have := HL3.out; have := pnz_len [si, st, (sn.length : Int)]; simp only [List.length_cons, List.length_nil] at this; omega
  rw [E4] at hO4
  have HE4 := Lib.hid E4
  have HL4 := Lib.hid hl4
  clear E4 hl4
  have HN4 : Hid (Nx w3 (Value.slice a3 L3.length q3) w4 v4) := Lib.hid ((Nx.refl w3 (Value.slice a3 L3.length q3)).drewN 1 |>.trans hx4)
  have HO4 := Lib.hid (And.intro hO4 hm4)
  obtain ⟨a4, q4, rfl⟩ := hO4.val
  clear hO4 hm4 hx4
  refine hK.out _ _ HN4.out.1 (fun hHeld => ?_)
  clear hK K
  try simp only [Act.put, List.setIfInBounds_toArray, List.set_cons_zero, List.set_cons_succ]
  refine wpAnyH_ready (rs := [16]) (by kernel_rfl) (by simp) ?_
  refine AllReadyH.cons (o := { dst := some 69, op := Op.call { callee := Callee.value (Operand.func 25), args := #[Operand.tmp 65, Operand.tmp 68], argTypes := #[24, 23] }, type := 24, pos := "wire.go:113", after := #[{ on := 12, ground := Ground.data }, { on := 15, ground := Ground.data }, { on := 12, ground := Ground.chain }], guard := none }) rfl (fun K hK => ?_) ?_
  rotate_left
  · exact AllReadyH.nil
  go_simp
  refine (numbers_any w _ _ _ sn (fun z hz => by have := b7 z hz; omega) (enc5_len HL4.out b8) w4 HO4.out.1 HO4.out.2 (HSN.out.1.mod HO4.out.2) (fun a n c he hb => by
    have h1 := HSN.out.2 a n c he
    have h2 := ob_base HO4.out.1 hb
    omega)).mono ?_
  rintro e w5 ⟨v5, rfl, hO5, hm5, hx5⟩
  obtain ⟨L5, E5⟩ : ∃ L, L4 ++ pnz sn = L := ⟨_, rfl⟩
  have hl5 : L5.length ≤ 132 := by rw [← E5, List.length_append]; have := HL4.out; have := pnz_len sn; omega
  rw [E5] at hO5
  have HE5 := Lib.hid E5
  have HL5 := Lib.hid hl5
  clear E5 hl5
  have HN5 : Hid (Nx w3 (Value.slice a3 L3.length q3) w5 v5) := Lib.hid (HN4.out.trans hx5)
  have HO5 := Lib.hid (And.intro hO5 hm5)
  obtain ⟨a5, q5, rfl⟩ := hO5.val
  clear hO5 hm5 hx5
  refine hK.out _ _ HN5.out.1 (fun hHeld => ?_)
  clear hK K
  try simp only [Act.put, List.setIfInBounds_toArray, List.set_cons_zero, List.set_cons_succ]
  refine wpAnyH_take (i := 17) (oi := { dst := some 4, op := Op.assign (Operand.tmp 69), type := 24, pos := "wire.go:113", after := #[{ on := 16, ground := Ground.data }, { on := 16, ground := Ground.chain }, { on := 0, ground := Ground.phase }, { on := 1, ground := Ground.phase }, { on := 2, ground := Ground.phase }, { on := 3, ground := Ground.phase }, { on := 4, ground := Ground.phase }, { on := 5, ground := Ground.phase }, { on := 6, ground := Ground.phase }, { on := 7, ground := Ground.phase }, { on := 8, ground := Ground.phase }, { on := 9, ground := Ground.phase }, { on := 10, ground := Ground.phase }, { on := 11, ground := Ground.phase }, { on := 12, ground := Ground.phase }, { on := 13, ground := Ground.phase }, { on := 14, ground := Ground.phase }, { on := 15, ground := Ground.phase }, { on := 16, ground := Ground.phase }], guard := none }) (v := ?_) rfl (by kernel_rfl) (by kernel_rfl) (by kernel_rfl) (fun _ _ _ h => h) (Or.inl ⟨by rfl, ?_⟩) hHeld ?_
  rotate_left
  · intro w' hSw
    go_simp
    try with_reducible rfl
  try simp only [Act.put, List.setIfInBounds_toArray, List.set_cons_zero, List.set_cons_succ]
  refine wpAnyH_done (by kernel_rfl) ?_ _
  go_wp2_with (fail)
  -- TAIL
  have HB5 := Lib.hid (HB3.out.mod HN5.out.1 (ob_nel HO3.out.1 HB3.out))
  have hne := ob_nel HO5.out.1 HB5.out
  have HX : Hid (∀ w', Mod (fun b => (Value.slice a5 L5.length q5).ownBlock = some b) w5 w' → w'.cell? ⟨w.heap.size, 13, none⟩ = some (.slice d1 sd.length d3) ∧ w'.cell? ⟨w.heap.size, 7, none⟩ = some (.int .i64 rd)) := Lib.hid (fun w' hm => ⟨(HB5.out.mod hm hne).cell 13, (HB5.out.mod hm hne).cell 7⟩)
  have HS := Lib.hid (ES.refl HO5.out.1 HO5.out.2).drew
  clear hne hHeld HB3 HN5 HN4 HO3 HO4 HSN HB5 HO5
  refine wp_region_held_drew (S := fun w' => Mod (fun b => (Value.slice a5 L5.length q5).ownBlock = some b) w5 w') (by kernel_rfl) (Mod.refl _ w5).drew (fun hHeld => ?_)
  refine wpAnyH_take (i := 0) (oi := { dst := some 70, op := Op.move (Operand.tmp 4), type := 24, pos := "wire.go:114", after := #[], guard := none }) (v := ?_) rfl (by kernel_rfl) (by kernel_rfl) (by kernel_rfl) (fun _ _ _ h => h) (Or.inl ⟨by rfl, ?_⟩) hHeld ?_
  rotate_left
  · intro w' hSw
    go_simp
    try with_reducible rfl
  try simp only [Act.put, List.setIfInBounds_toArray, List.set_cons_zero, List.set_cons_succ]
  refine wpAnyH_take (i := 1) (oi := { dst := some 71, op := Op.fieldAddr 28 (Operand.tmp 1) 10, type := 0, pos := "wire.go:114", after := #[], guard := none }) (v := ?_) rfl (by kernel_rfl) (by kernel_rfl) (by kernel_rfl) (fun _ _ _ h => h) (Or.inl ⟨by rfl, ?_⟩) hHeld ?_
  rotate_left
  · intro w' hSw
    go_simp
    try with_reducible rfl
  try simp only [Act.put, List.setIfInBounds_toArray, List.set_cons_zero, List.set_cons_succ]
  refine wpAnyH_take (i := 2) (oi := { dst := some 72, op := Op.fieldAddr 26 (Operand.tmp 71) 3, type := 0, pos := "wire.go:114", after := #[{ on := 1, ground := Ground.data }], guard := none }) (v := ?_) rfl (by kernel_rfl) (by kernel_rfl) (by kernel_rfl) (fun _ _ _ h => h) (Or.inl ⟨by rfl, ?_⟩) hHeld ?_
  rotate_left
  · intro w' hSw
    go_simp
    try with_reducible rfl
  try simp only [Act.put, List.setIfInBounds_toArray, List.set_cons_zero, List.set_cons_succ]
  refine wpAnyH_take (i := 3) (oi := { dst := some 73, op := Op.load 24 (Operand.tmp 72), type := 24, pos := "wire.go:114", after := #[{ on := 2, ground := Ground.data }], guard := none }) (v := ?_) rfl (by kernel_rfl) (by kernel_rfl) (by kernel_rfl) (fun _ _ _ h => h) (Or.inl ⟨by rfl, ?_⟩) hHeld ?_
  rotate_left
  · intro w' hSw
    obtain ⟨y1, y2⟩ := HX.out w' hSw
    go_simp
    try with_reducible rfl
  try simp only [Act.put, List.setIfInBounds_toArray, List.set_cons_zero, List.set_cons_succ]
  refine wpAnyH_take (i := 4) (oi := { dst := some 74, op := Op.call { callee := Callee.builtin Builtin.len, args := #[Operand.tmp 73], argTypes := #[24] }, type := 3, pos := "wire.go:114", after := #[{ on := 3, ground := Ground.data }], guard := none }) (v := ?_) rfl (by kernel_rfl) (by kernel_rfl) (by kernel_rfl) (fun _ _ _ h => h) (Or.inl ⟨by rfl, ?_⟩) hHeld ?_
  rotate_left
  · intro w' hSw
    go_simp
    try with_reducible rfl
  try simp only [Act.put, List.setIfInBounds_toArray, List.set_cons_zero, List.set_cons_succ]
  refine wpAnyH_take (i := 7) (oi := { dst := some 77, op := Op.fieldAddr 28 (Operand.tmp 1) 10, type := 0, pos := "wire.go:114", after := #[], guard := none }) (v := ?_) rfl (by kernel_rfl) (by kernel_rfl) (by kernel_rfl) (fun _ _ _ h => h) (Or.inl ⟨by rfl, ?_⟩) hHeld ?_
  rotate_left
  · intro w' hSw
    go_simp
    try with_reducible rfl
  try simp only [Act.put, List.setIfInBounds_toArray, List.set_cons_zero, List.set_cons_succ]
  refine wpAnyH_take (i := 8) (oi := { dst := some 78, op := Op.fieldAddr 26 (Operand.tmp 77) 3, type := 0, pos := "wire.go:114", after := #[{ on := 7, ground := Ground.data }], guard := none }) (v := ?_) rfl (by kernel_rfl) (by kernel_rfl) (by kernel_rfl) (fun _ _ _ h => h) (Or.inl ⟨by rfl, ?_⟩) hHeld ?_
  rotate_left
  · intro w' hSw
    go_simp
    try with_reducible rfl
  try simp only [Act.put, List.setIfInBounds_toArray, List.set_cons_zero, List.set_cons_succ]
  refine wpAnyH_take (i := 9) (oi := { dst := some 79, op := Op.load 24 (Operand.tmp 78), type := 24, pos := "wire.go:114", after := #[{ on := 8, ground := Ground.data }], guard := none }) (v := ?_) rfl (by kernel_rfl) (by kernel_rfl) (by kernel_rfl) (fun _ _ _ h => h) (Or.inl ⟨by rfl, ?_⟩) hHeld ?_
  rotate_left
  · intro w' hSw
    obtain ⟨y1, y2⟩ := HX.out w' hSw
    go_simp
    try with_reducible rfl
  try simp only [Act.put, List.setIfInBounds_toArray, List.set_cons_zero, List.set_cons_succ]
  refine wpAnyH_take (i := 11) (oi := { dst := some 81, op := Op.fieldAddr 28 (Operand.tmp 1) 7, type := 0, pos := "wire.go:114", after := #[], guard := none }) (v := ?_) rfl (by kernel_rfl) (by kernel_rfl) (by kernel_rfl) (fun _ _ _ h => h) (Or.inl ⟨by rfl, ?_⟩) hHeld ?_
  rotate_left
  · intro w' hSw
    go_simp
    try with_reducible rfl
  try simp only [Act.put, List.setIfInBounds_toArray, List.set_cons_zero, List.set_cons_succ]
  refine wpAnyH_take (i := 12) (oi := { dst := some 82, op := Op.load 3 (Operand.tmp 81), type := 3, pos := "wire.go:114", after := #[{ on := 11, ground := Ground.data }], guard := none }) (v := ?_) rfl (by kernel_rfl) (by kernel_rfl) (by kernel_rfl) (fun _ _ _ h => h) (Or.inl ⟨by rfl, ?_⟩) hHeld ?_
  rotate_left
  · intro w' hSw
    obtain ⟨y1, y2⟩ := HX.out w' hSw
    go_simp
    try with_reducible rfl
  try simp only [Act.put, List.setIfInBounds_toArray, List.set_cons_zero, List.set_cons_succ]
  refine wpAnyH_ready (rs := [5, 13]) (by kernel_rfl) (by simp) ?_
  refine AllReadyH.cons (o := { dst := some 75, op := Op.buildSlice 23 1 #[(0, Operand.tmp 74)], type := 23, pos := "wire.go:114", after := #[{ on := 4, ground := Ground.data }], guard := none }) rfl (fun K hK => ?_) (AllReadyH.cons (o := { dst := some 83, op := Op.buildSlice 23 1 #[(0, Operand.tmp 82)], type := 23, pos := "wire.go:114", after := #[{ on := 12, ground := Ground.data }], guard := none }) rfl (fun K hK => ?_) AllReadyH.nil)
  · go_simp
    have HP5 := Lib.hid (Pend.new HS.out ((sd.length : Int)))
    have HS := Lib.hid (HS.out.alloc (Obj.cells #[.int .i64 ((sd.length : Int))] 3))
    refine hK.out _ _ (hHeld.alloc _) (fun hHeld => ?_)
    clear hK K
    try simp only [Act.put, List.setIfInBounds_toArray, List.set_cons_zero, List.set_cons_succ]
    refine wpAnyH_ready (rs := [6, 13]) (by kernel_rfl) (by simp) ?_
    refine AllReadyH.cons (o := { dst := some 76, op := Op.call { callee := Callee.value (Operand.func 25), args := #[Operand.tmp 70, Operand.tmp 75], argTypes := #[24, 23] }, type := 24, pos := "wire.go:114", after := #[{ on := 0, ground := Ground.data }, { on := 5, ground := Ground.data }], guard := none }) rfl (fun K hK => ?_) (AllReadyH.cons (o := { dst := some 83, op := Op.buildSlice 23 1 #[(0, Operand.tmp 82)], type := 23, pos := "wire.go:114", after := #[{ on := 12, ground := Ground.data }], guard := none }) rfl (fun K hK => ?_) AllReadyH.nil)
    · go_simp
      refine (one_any (by omega) (by have := HL5.out; omega) HS.out HP5.out (by simp)).mono ?_
      rintro e w6 ⟨v6, rfl, hE6, hX6⟩
      obtain ⟨L6, E6⟩ : ∃ L, L5 ++ pnz [(sd.length : Int)] = L := ⟨_, rfl⟩
      have hl6 : L6.length ≤ 143 := by rw [← E6, List.length_append]; have := HL5.out; have := pnz_len [(sd.length : Int)]; simp only [List.length_cons, List.length_nil] at this; omega
      rw [E6] at hE6
      have HL6 := Lib.hid hl6
      have HE6 := Lib.hid E6
      have HS := Lib.hid hE6
      obtain ⟨a6, q6, rfl⟩ := hE6.1.val
      clear E6 hl6 hE6 hX6
      refine hK.out _ _ HS.out.2.2.1 (fun hHeld => ?_)
      clear hK K
      try simp only [Act.put, List.setIfInBounds_toArray, List.set_cons_zero, List.set_cons_succ]
      refine wpAnyH_ready (rs := [10, 13]) (by kernel_rfl) (by simp) ?_
      refine AllReadyH.cons (o := { dst := some 80, op := Op.call { callee := Callee.builtin Builtin.append, args := #[Operand.tmp 76, Operand.tmp 79], argTypes := #[24, 24] }, type := 24, pos := "wire.go:114", after := #[{ on := 6, ground := Ground.data }, { on := 9, ground := Ground.data }, { on := 6, ground := Ground.chain }], guard := none }) rfl (fun K hK => ?_) (AllReadyH.cons (o := { dst := some 83, op := Op.buildSlice 23 1 #[(0, Operand.tmp 82)], type := 23, pos := "wire.go:114", after := #[{ on := 12, ground := Ground.data }], guard := none }) rfl (fun K hK => ?_) AllReadyH.nil)
      · obtain ⟨v7, w7, hr7, hE7, hX7⟩ := HS.out.app HSD.out.1 (by have := HL6.out; omega)
        refine step_append_run rfl _ _ 24 24 rfl _ _ (by simp [Act.eval]) (by simp [Act.eval]) hr7 ?_
        clear hr7
        obtain ⟨L7, E7⟩ : ∃ L, L6 ++ sd = L := ⟨_, rfl⟩
        have hl7 : L7.length ≤ 300143 := by rw [← E7, List.length_append]; have := HL6.out; omega
        rw [E7] at hE7
        have HL7 := Lib.hid hl7
        have HE7 := Lib.hid E7
        have HS := Lib.hid hE7
        obtain ⟨a7, q7, rfl⟩ := hE7.1.val
        clear E7 hl7 hE7 hX7
        refine hK.out _ _ HS.out.2.2.1 (fun hHeld => ?_)
        clear hK K
        try simp only [Act.put, List.setIfInBounds_toArray, List.set_cons_zero, List.set_cons_succ]
        refine wpAnyH_ready (rs := [13]) (by kernel_rfl) (by simp) ?_
        refine AllReadyH.cons (o := { dst := some 83, op := Op.buildSlice 23 1 #[(0, Operand.tmp 82)], type := 23, pos := "wire.go:114", after := #[{ on := 12, ground := Ground.data }], guard := none }) rfl (fun K hK => ?_) ?_
        rotate_left
        · exact AllReadyH.nil
        go_simp
        have HP13 := Lib.hid (Pend.new HS.out (rd))
        have HS := Lib.hid (HS.out.alloc (Obj.cells #[.int .i64 (rd)] 3))
        refine hK.out _ _ (hHeld.alloc _) (fun hHeld => ?_)
        clear hK K
        try simp only [Act.put, List.setIfInBounds_toArray, List.set_cons_zero, List.set_cons_succ]
        refine wpAnyH_ready (rs := [14]) (by kernel_rfl) (by simp) ?_
        refine AllReadyH.cons (o := { dst := some 84, op := Op.call { callee := Callee.value (Operand.func 25), args := #[Operand.tmp 80, Operand.tmp 83], argTypes := #[24, 23] }, type := 24, pos := "wire.go:114", after := #[{ on := 10, ground := Ground.data }, { on := 13, ground := Ground.data }, { on := 10, ground := Ground.chain }], guard := none }) rfl (fun K hK => ?_) ?_
        rotate_left
        · exact AllReadyH.nil
        go_simp
        refine (one_any (by omega) (by have := HL7.out; omega) HS.out HP13.out (by simp)).mono ?_
        rintro e w8 ⟨v8, rfl, hE8, hX8⟩
        obtain ⟨L8, E8⟩ : ∃ L, L7 ++ pnz [rd] = L := ⟨_, rfl⟩
        have hl8 : L8.length ≤ 300154 := by rw [← E8, List.length_append]; have := HL7.out; have := pnz_len [rd]; simp only [List.length_cons, List.length_nil] at this; omega
        rw [E8] at hE8
        have HL8 := Lib.hid hl8
        have HE8 := Lib.hid E8
        have HS := Lib.hid hE8
        obtain ⟨a8, q8, rfl⟩ := hE8.1.val
        clear E8 hl8 hE8 hX8
        refine hK.out _ _ HS.out.2.2.1 (fun hHeld => ?_)
        clear hK K
        try simp only [Act.put, List.setIfInBounds_toArray, List.set_cons_zero, List.set_cons_succ]
        refine wpAnyH_take (i := 15) (oi := { dst := some 2, op := Op.assign (Operand.tmp 84), type := 24, pos := "wire.go:114", after := #[{ on := 14, ground := Ground.data }, { on := 14, ground := Ground.chain }, { on := 0, ground := Ground.phase }, { on := 1, ground := Ground.phase }, { on := 2, ground := Ground.phase }, { on := 3, ground := Ground.phase }, { on := 4, ground := Ground.phase }, { on := 5, ground := Ground.phase }, { on := 6, ground := Ground.phase }, { on := 7, ground := Ground.phase }, { on := 8, ground := Ground.phase }, { on := 9, ground := Ground.phase }, { on := 10, ground := Ground.phase }, { on := 11, ground := Ground.phase }, { on := 12, ground := Ground.phase }, { on := 13, ground := Ground.phase }, { on := 14, ground := Ground.phase }], guard := none }) (v := ?_) rfl (by kernel_rfl) (by kernel_rfl) (by kernel_rfl) (fun _ _ _ h => h) (Or.inl ⟨by rfl, ?_⟩) hHeld ?_
        rotate_left
        · intro w' hSw
          go_simp
          try with_reducible rfl
        try simp only [Act.put, List.setIfInBounds_toArray, List.set_cons_zero, List.set_cons_succ]
        refine wpAnyH_take (i := 16) (oi := { dst := some 3, op := Op.assign (Operand.const (Value.int IntKind.i64 0)), type := 31, pos := "wire.go:114", after := #[{ on := 15, ground := Ground.chain }, { on := 0, ground := Ground.phase }, { on := 1, ground := Ground.phase }, { on := 2, ground := Ground.phase }, { on := 3, ground := Ground.phase }, { on := 4, ground := Ground.phase }, { on := 5, ground := Ground.phase }, { on := 6, ground := Ground.phase }, { on := 7, ground := Ground.phase }, { on := 8, ground := Ground.phase }, { on := 9, ground := Ground.phase }, { on := 10, ground := Ground.phase }, { on := 11, ground := Ground.phase }, { on := 12, ground := Ground.phase }, { on := 13, ground := Ground.phase }, { on := 14, ground := Ground.phase }, { on := 15, ground := Ground.phase }], guard := none }) (v := ?_) rfl (by kernel_rfl) (by kernel_rfl) (by kernel_rfl) (fun _ _ _ h => h) (Or.inl ⟨by rfl, ?_⟩) hHeld ?_
        rotate_left
        · intro w' hSw
          go_simp
          try with_reducible rfl
        try simp only [Act.put, List.setIfInBounds_toArray, List.set_cons_zero, List.set_cons_succ]
        refine wpAnyH_done (by kernel_rfl) ?_ _
        go_wp2_with (fail)
        go_ret2
        exact ⟨_, rfl, enc5_fin HE3.out HE4.out HE5.out HE6.out HE7.out HE8.out HS.out⟩
      · go_simp
        have HP13 := Lib.hid (Pend.new HS.out (rd))
        have HS := Lib.hid (HS.out.alloc (Obj.cells #[.int .i64 (rd)] 3))
        refine hK.out _ _ (hHeld.alloc _) (fun hHeld => ?_)
        clear hK K
        try simp only [Act.put, List.setIfInBounds_toArray, List.set_cons_zero, List.set_cons_succ]
        refine wpAnyH_ready (rs := [10]) (by kernel_rfl) (by simp) ?_
        refine AllReadyH.cons (o := { dst := some 80, op := Op.call { callee := Callee.builtin Builtin.append, args := #[Operand.tmp 76, Operand.tmp 79], argTypes := #[24, 24] }, type := 24, pos := "wire.go:114", after := #[{ on := 6, ground := Ground.data }, { on := 9, ground := Ground.data }, { on := 6, ground := Ground.chain }], guard := none }) rfl (fun K hK => ?_) ?_
        rotate_left
        · exact AllReadyH.nil
        obtain ⟨v7, w7, hr7, hE7, hX7⟩ := HS.out.app HSD.out.1 (by have := HL6.out; omega)
        refine step_append_run rfl _ _ 24 24 rfl _ _ (by simp [Act.eval]) (by simp [Act.eval]) hr7 ?_
        clear hr7
        obtain ⟨L7, E7⟩ : ∃ L, L6 ++ sd = L := ⟨_, rfl⟩
        have hl7 : L7.length ≤ 300143 := by rw [← E7, List.length_append]; have := HL6.out; omega
        rw [E7] at hE7
        have HL7 := Lib.hid hl7
        have HE7 := Lib.hid E7
        have HS := Lib.hid hE7
        have HP13 := Lib.hid ((HP13.out).step hX7)
        obtain ⟨a7, q7, rfl⟩ := hE7.1.val
        clear E7 hl7 hE7 hX7
        refine hK.out _ _ HS.out.2.2.1 (fun hHeld => ?_)
        clear hK K
        try simp only [Act.put, List.setIfInBounds_toArray, List.set_cons_zero, List.set_cons_succ]
        refine wpAnyH_ready (rs := [14]) (by kernel_rfl) (by simp) ?_
        refine AllReadyH.cons (o := { dst := some 84, op := Op.call { callee := Callee.value (Operand.func 25), args := #[Operand.tmp 80, Operand.tmp 83], argTypes := #[24, 23] }, type := 24, pos := "wire.go:114", after := #[{ on := 10, ground := Ground.data }, { on := 13, ground := Ground.data }, { on := 10, ground := Ground.chain }], guard := none }) rfl (fun K hK => ?_) ?_
        rotate_left
        · exact AllReadyH.nil
        go_simp
        refine (one_any (by omega) (by have := HL7.out; omega) HS.out HP13.out (by simp)).mono ?_
        rintro e w8 ⟨v8, rfl, hE8, hX8⟩
        obtain ⟨L8, E8⟩ : ∃ L, L7 ++ pnz [rd] = L := ⟨_, rfl⟩
        have hl8 : L8.length ≤ 300154 := by rw [← E8, List.length_append]; have := HL7.out; have := pnz_len [rd]; simp only [List.length_cons, List.length_nil] at this; omega
        rw [E8] at hE8
        have HL8 := Lib.hid hl8
        have HE8 := Lib.hid E8
        have HS := Lib.hid hE8
        obtain ⟨a8, q8, rfl⟩ := hE8.1.val
        clear E8 hl8 hE8 hX8
        refine hK.out _ _ HS.out.2.2.1 (fun hHeld => ?_)
        clear hK K
        try simp only [Act.put, List.setIfInBounds_toArray, List.set_cons_zero, List.set_cons_succ]
        refine wpAnyH_take (i := 15) (oi := { dst := some 2, op := Op.assign (Operand.tmp 84), type := 24, pos := "wire.go:114", after := #[{ on := 14, ground := Ground.data }, { on := 14, ground := Ground.chain }, { on := 0, ground := Ground.phase }, { on := 1, ground := Ground.phase }, { on := 2, ground := Ground.phase }, { on := 3, ground := Ground.phase }, { on := 4, ground := Ground.phase }, { on := 5, ground := Ground.phase }, { on := 6, ground := Ground.phase }, { on := 7, ground := Ground.phase }, { on := 8, ground := Ground.phase }, { on := 9, ground := Ground.phase }, { on := 10, ground := Ground.phase }, { on := 11, ground := Ground.phase }, { on := 12, ground := Ground.phase }, { on := 13, ground := Ground.phase }, { on := 14, ground := Ground.phase }], guard := none }) (v := ?_) rfl (by kernel_rfl) (by kernel_rfl) (by kernel_rfl) (fun _ _ _ h => h) (Or.inl ⟨by rfl, ?_⟩) hHeld ?_
        rotate_left
        · intro w' hSw
          go_simp
          try with_reducible rfl
        try simp only [Act.put, List.setIfInBounds_toArray, List.set_cons_zero, List.set_cons_succ]
        refine wpAnyH_take (i := 16) (oi := { dst := some 3, op := Op.assign (Operand.const (Value.int IntKind.i64 0)), type := 31, pos := "wire.go:114", after := #[{ on := 15, ground := Ground.chain }, { on := 0, ground := Ground.phase }, { on := 1, ground := Ground.phase }, { on := 2, ground := Ground.phase }, { on := 3, ground := Ground.phase }, { on := 4, ground := Ground.phase }, { on := 5, ground := Ground.phase }, { on := 6, ground := Ground.phase }, { on := 7, ground := Ground.phase }, { on := 8, ground := Ground.phase }, { on := 9, ground := Ground.phase }, { on := 10, ground := Ground.phase }, { on := 11, ground := Ground.phase }, { on := 12, ground := Ground.phase }, { on := 13, ground := Ground.phase }, { on := 14, ground := Ground.phase }, { on := 15, ground := Ground.phase }], guard := none }) (v := ?_) rfl (by kernel_rfl) (by kernel_rfl) (by kernel_rfl) (fun _ _ _ h => h) (Or.inl ⟨by rfl, ?_⟩) hHeld ?_
        rotate_left
        · intro w' hSw
          go_simp
          try with_reducible rfl
        try simp only [Act.put, List.setIfInBounds_toArray, List.set_cons_zero, List.set_cons_succ]
        refine wpAnyH_done (by kernel_rfl) ?_ _
        go_wp2_with (fail)
        go_ret2
        exact ⟨_, rfl, enc5_fin HE3.out HE4.out HE5.out HE6.out HE7.out HE8.out HS.out⟩
    · go_simp
      have HP13 := Lib.hid (Pend.new HS.out (rd))
      have HP5 := Lib.hid ((HP5.out).alloc (Obj.cells #[.int .i64 (rd)] 3))
      have HS := Lib.hid (HS.out.alloc (Obj.cells #[.int .i64 (rd)] 3))
      refine hK.out _ _ (hHeld.alloc _) (fun hHeld => ?_)
      clear hK K
      try simp only [Act.put, List.setIfInBounds_toArray, List.set_cons_zero, List.set_cons_succ]
      refine wpAnyH_ready (rs := [6]) (by kernel_rfl) (by simp) ?_
      refine AllReadyH.cons (o := { dst := some 76, op := Op.call { callee := Callee.value (Operand.func 25), args := #[Operand.tmp 70, Operand.tmp 75], argTypes := #[24, 23] }, type := 24, pos := "wire.go:114", after := #[{ on := 0, ground := Ground.data }, { on := 5, ground := Ground.data }], guard := none }) rfl (fun K hK => ?_) ?_
      rotate_left
      · exact AllReadyH.nil
      go_simp
      refine (one_any (by omega) (by have := HL5.out; omega) HS.out HP5.out (by simp)).mono ?_
      rintro e w6 ⟨v6, rfl, hE6, hX6⟩
      obtain ⟨L6, E6⟩ : ∃ L, L5 ++ pnz [(sd.length : Int)] = L := ⟨_, rfl⟩
      have hl6 : L6.length ≤ 143 := by rw [← E6, List.length_append]; have := HL5.out; have := pnz_len [(sd.length : Int)]; simp only [List.length_cons, List.length_nil] at this; omega
      rw [E6] at hE6
      have HL6 := Lib.hid hl6
      have HE6 := Lib.hid E6
      have HS := Lib.hid hE6
      have HP13 := Lib.hid ((HP13.out).step hX6)
      obtain ⟨a6, q6, rfl⟩ := hE6.1.val
      clear E6 hl6 hE6 hX6
      refine hK.out _ _ HS.out.2.2.1 (fun hHeld => ?_)
      clear hK K
      try simp only [Act.put, List.setIfInBounds_toArray, List.set_cons_zero, List.set_cons_succ]
      refine wpAnyH_ready (rs := [10]) (by kernel_rfl) (by simp) ?_
      refine AllReadyH.cons (o := { dst := some 80, op := Op.call { callee := Callee.builtin Builtin.append, args := #[Operand.tmp 76, Operand.tmp 79], argTypes := #[24, 24] }, type := 24, pos := "wire.go:114", after := #[{ on := 6, ground := Ground.data }, { on := 9, ground := Ground.data }, { on := 6, ground := Ground.chain }], guard := none }) rfl (fun K hK => ?_) ?_
      rotate_left
      · exact AllReadyH.nil
      obtain ⟨v7, w7, hr7, hE7, hX7⟩ := HS.out.app HSD.out.1 (by have := HL6.out; omega)
      refine step_append_run rfl _ _ 24 24 rfl _ _ (by simp [Act.eval]) (by simp [Act.eval]) hr7 ?_
      clear hr7
      obtain ⟨L7, E7⟩ : ∃ L, L6 ++ sd = L := ⟨_, rfl⟩
      have hl7 : L7.length ≤ 300143 := by rw [← E7, List.length_append]; have := HL6.out; omega
      rw [E7] at hE7
      have HL7 := Lib.hid hl7
      have HE7 := Lib.hid E7
      have HS := Lib.hid hE7
      have HP13 := Lib.hid ((HP13.out).step hX7)
      obtain ⟨a7, q7, rfl⟩ := hE7.1.val
      clear E7 hl7 hE7 hX7
      refine hK.out _ _ HS.out.2.2.1 (fun hHeld => ?_)
      clear hK K
      try simp only [Act.put, List.setIfInBounds_toArray, List.set_cons_zero, List.set_cons_succ]
      refine wpAnyH_ready (rs := [14]) (by kernel_rfl) (by simp) ?_
      refine AllReadyH.cons (o := { dst := some 84, op := Op.call { callee := Callee.value (Operand.func 25), args := #[Operand.tmp 80, Operand.tmp 83], argTypes := #[24, 23] }, type := 24, pos := "wire.go:114", after := #[{ on := 10, ground := Ground.data }, { on := 13, ground := Ground.data }, { on := 10, ground := Ground.chain }], guard := none }) rfl (fun K hK => ?_) ?_
      rotate_left
      · exact AllReadyH.nil
      go_simp
      refine (one_any (by omega) (by have := HL7.out; omega) HS.out HP13.out (by simp)).mono ?_
      rintro e w8 ⟨v8, rfl, hE8, hX8⟩
      obtain ⟨L8, E8⟩ : ∃ L, L7 ++ pnz [rd] = L := ⟨_, rfl⟩
      have hl8 : L8.length ≤ 300154 := by rw [← E8, List.length_append]; have := HL7.out; have := pnz_len [rd]; simp only [List.length_cons, List.length_nil] at this; omega
      rw [E8] at hE8
      have HL8 := Lib.hid hl8
      have HE8 := Lib.hid E8
      have HS := Lib.hid hE8
      obtain ⟨a8, q8, rfl⟩ := hE8.1.val
      clear E8 hl8 hE8 hX8
      refine hK.out _ _ HS.out.2.2.1 (fun hHeld => ?_)
      clear hK K
      try simp only [Act.put, List.setIfInBounds_toArray, List.set_cons_zero, List.set_cons_succ]
      refine wpAnyH_take (i := 15) (oi := { dst := some 2, op := Op.assign (Operand.tmp 84), type := 24, pos := "wire.go:114", after := #[{ on := 14, ground := Ground.data }, { on := 14, ground := Ground.chain }, { on := 0, ground := Ground.phase }, { on := 1, ground := Ground.phase }, { on := 2, ground := Ground.phase }, { on := 3, ground := Ground.phase }, { on := 4, ground := Ground.phase }, { on := 5, ground := Ground.phase }, { on := 6, ground := Ground.phase }, { on := 7, ground := Ground.phase }, { on := 8, ground := Ground.phase }, { on := 9, ground := Ground.phase }, { on := 10, ground := Ground.phase }, { on := 11, ground := Ground.phase }, { on := 12, ground := Ground.phase }, { on := 13, ground := Ground.phase }, { on := 14, ground := Ground.phase }], guard := none }) (v := ?_) rfl (by kernel_rfl) (by kernel_rfl) (by kernel_rfl) (fun _ _ _ h => h) (Or.inl ⟨by rfl, ?_⟩) hHeld ?_
      rotate_left
      · intro w' hSw
        go_simp
        try with_reducible rfl
      try simp only [Act.put, List.setIfInBounds_toArray, List.set_cons_zero, List.set_cons_succ]
      refine wpAnyH_take (i := 16) (oi := { dst := some 3, op := Op.assign (Operand.const (Value.int IntKind.i64 0)), type := 31, pos := "wire.go:114", after := #[{ on := 15, ground := Ground.chain }, { on := 0, ground := Ground.phase }, { on := 1, ground := Ground.phase }, { on := 2, ground := Ground.phase }, { on := 3, ground := Ground.phase }, { on := 4, ground := Ground.phase }, { on := 5, ground := Ground.phase }, { on := 6, ground := Ground.phase }, { on := 7, ground := Ground.phase }, { on := 8, ground := Ground.phase }, { on := 9, ground := Ground.phase }, { on := 10, ground := Ground.phase }, { on := 11, ground := Ground.phase }, { on := 12, ground := Ground.phase }, { on := 13, ground := Ground.phase }, { on := 14, ground := Ground.phase }, { on := 15, ground := Ground.phase }], guard := none }) (v := ?_) rfl (by kernel_rfl) (by kernel_rfl) (by kernel_rfl) (fun _ _ _ h => h) (Or.inl ⟨by rfl, ?_⟩) hHeld ?_
      rotate_left
      · intro w' hSw
        go_simp
        try with_reducible rfl
      try simp only [Act.put, List.setIfInBounds_toArray, List.set_cons_zero, List.set_cons_succ]
      refine wpAnyH_done (by kernel_rfl) ?_ _
      go_wp2_with (fail)
      go_ret2
      exact ⟨_, rfl, enc5_fin HE3.out HE4.out HE5.out HE6.out HE7.out HE8.out HS.out⟩
  · go_simp
    have HP13 := Lib.hid (Pend.new HS.out (rd))
    have HS := Lib.hid (HS.out.alloc (Obj.cells #[.int .i64 (rd)] 3))
    refine hK.out _ _ (hHeld.alloc _) (fun hHeld => ?_)
    clear hK K
    try simp only [Act.put, List.setIfInBounds_toArray, List.set_cons_zero, List.set_cons_succ]
    refine wpAnyH_ready (rs := [5]) (by kernel_rfl) (by simp) ?_
    refine AllReadyH.cons (o := { dst := some 75, op := Op.buildSlice 23 1 #[(0, Operand.tmp 74)], type := 23, pos := "wire.go:114", after := #[{ on := 4, ground := Ground.data }], guard := none }) rfl (fun K hK => ?_) ?_
    rotate_left
    · exact AllReadyH.nil
    go_simp
    have HP5 := Lib.hid (Pend.new HS.out ((sd.length : Int)))
    have HP13 := Lib.hid ((HP13.out).alloc (Obj.cells #[.int .i64 ((sd.length : Int))] 3))
    have HS := Lib.hid (HS.out.alloc (Obj.cells #[.int .i64 ((sd.length : Int))] 3))
    refine hK.out _ _ (hHeld.alloc _) (fun hHeld => ?_)
    clear hK K
    try simp only [Act.put, List.setIfInBounds_toArray, List.set_cons_zero, List.set_cons_succ]
    refine wpAnyH_ready (rs := [6]) (by kernel_rfl) (by simp) ?_
    refine AllReadyH.cons (o := { dst := some 76, op := Op.call { callee := Callee.value (Operand.func 25), args := #[Operand.tmp 70, Operand.tmp 75], argTypes := #[24, 23] }, type := 24, pos := "wire.go:114", after := #[{ on := 0, ground := Ground.data }, { on := 5, ground := Ground.data }], guard := none }) rfl (fun K hK => ?_) ?_
    rotate_left
    · exact AllReadyH.nil
    go_simp
    refine (one_any (by omega) (by have := HL5.out; omega) HS.out HP5.out (by simp)).mono ?_
    rintro e w6 ⟨v6, rfl, hE6, hX6⟩
    obtain ⟨L6, E6⟩ : ∃ L, L5 ++ pnz [(sd.length : Int)] = L := ⟨_, rfl⟩
    have hl6 : L6.length ≤ 143 := by rw [← E6, List.length_append]; have := HL5.out; have := pnz_len [(sd.length : Int)]; simp only [List.length_cons, List.length_nil] at this; omega
    rw [E6] at hE6
    have HL6 := Lib.hid hl6
    have HE6 := Lib.hid E6
    have HS := Lib.hid hE6
    have HP13 := Lib.hid ((HP13.out).step hX6)
    obtain ⟨a6, q6, rfl⟩ := hE6.1.val
    clear E6 hl6 hE6 hX6
    refine hK.out _ _ HS.out.2.2.1 (fun hHeld => ?_)
    clear hK K
    try simp only [Act.put, List.setIfInBounds_toArray, List.set_cons_zero, List.set_cons_succ]
    refine wpAnyH_ready (rs := [10]) (by kernel_rfl) (by simp) ?_
    refine AllReadyH.cons (o := { dst := some 80, op := Op.call { callee := Callee.builtin Builtin.append, args := #[Operand.tmp 76, Operand.tmp 79], argTypes := #[24, 24] }, type := 24, pos := "wire.go:114", after := #[{ on := 6, ground := Ground.data }, { on := 9, ground := Ground.data }, { on := 6, ground := Ground.chain }], guard := none }) rfl (fun K hK => ?_) ?_
    rotate_left
    · exact AllReadyH.nil
    obtain ⟨v7, w7, hr7, hE7, hX7⟩ := HS.out.app HSD.out.1 (by have := HL6.out; omega)
    refine step_append_run rfl _ _ 24 24 rfl _ _ (by simp [Act.eval]) (by simp [Act.eval]) hr7 ?_
    clear hr7
    obtain ⟨L7, E7⟩ : ∃ L, L6 ++ sd = L := ⟨_, rfl⟩
    have hl7 : L7.length ≤ 300143 := by rw [← E7, List.length_append]; have := HL6.out; omega
    rw [E7] at hE7
    have HL7 := Lib.hid hl7
    have HE7 := Lib.hid E7
    have HS := Lib.hid hE7
    have HP13 := Lib.hid ((HP13.out).step hX7)
    obtain ⟨a7, q7, rfl⟩ := hE7.1.val
    clear E7 hl7 hE7 hX7
    refine hK.out _ _ HS.out.2.2.1 (fun hHeld => ?_)
    clear hK K
    try simp only [Act.put, List.setIfInBounds_toArray, List.set_cons_zero, List.set_cons_succ]
    refine wpAnyH_ready (rs := [14]) (by kernel_rfl) (by simp) ?_
    refine AllReadyH.cons (o := { dst := some 84, op := Op.call { callee := Callee.value (Operand.func 25), args := #[Operand.tmp 80, Operand.tmp 83], argTypes := #[24, 23] }, type := 24, pos := "wire.go:114", after := #[{ on := 10, ground := Ground.data }, { on := 13, ground := Ground.data }, { on := 10, ground := Ground.chain }], guard := none }) rfl (fun K hK => ?_) ?_
    rotate_left
    · exact AllReadyH.nil
    go_simp
    refine (one_any (by omega) (by have := HL7.out; omega) HS.out HP13.out (by simp)).mono ?_
    rintro e w8 ⟨v8, rfl, hE8, hX8⟩
    obtain ⟨L8, E8⟩ : ∃ L, L7 ++ pnz [rd] = L := ⟨_, rfl⟩
    have hl8 : L8.length ≤ 300154 := by rw [← E8, List.length_append]; have := HL7.out; have := pnz_len [rd]; simp only [List.length_cons, List.length_nil] at this; omega
    rw [E8] at hE8
    have HL8 := Lib.hid hl8
    have HE8 := Lib.hid E8
    have HS := Lib.hid hE8
    obtain ⟨a8, q8, rfl⟩ := hE8.1.val
    clear E8 hl8 hE8 hX8
    refine hK.out _ _ HS.out.2.2.1 (fun hHeld => ?_)
    clear hK K
    try simp only [Act.put, List.setIfInBounds_toArray, List.set_cons_zero, List.set_cons_succ]
    refine wpAnyH_take (i := 15) (oi := { dst := some 2, op := Op.assign (Operand.tmp 84), type := 24, pos := "wire.go:114", after := #[{ on := 14, ground := Ground.data }, { on := 14, ground := Ground.chain }, { on := 0, ground := Ground.phase }, { on := 1, ground := Ground.phase }, { on := 2, ground := Ground.phase }, { on := 3, ground := Ground.phase }, { on := 4, ground := Ground.phase }, { on := 5, ground := Ground.phase }, { on := 6, ground := Ground.phase }, { on := 7, ground := Ground.phase }, { on := 8, ground := Ground.phase }, { on := 9, ground := Ground.phase }, { on := 10, ground := Ground.phase }, { on := 11, ground := Ground.phase }, { on := 12, ground := Ground.phase }, { on := 13, ground := Ground.phase }, { on := 14, ground := Ground.phase }], guard := none }) (v := ?_) rfl (by kernel_rfl) (by kernel_rfl) (by kernel_rfl) (fun _ _ _ h => h) (Or.inl ⟨by rfl, ?_⟩) hHeld ?_
    rotate_left
    · intro w' hSw
      go_simp
      try with_reducible rfl
    try simp only [Act.put, List.setIfInBounds_toArray, List.set_cons_zero, List.set_cons_succ]
    refine wpAnyH_take (i := 16) (oi := { dst := some 3, op := Op.assign (Operand.const (Value.int IntKind.i64 0)), type := 31, pos := "wire.go:114", after := #[{ on := 15, ground := Ground.chain }, { on := 0, ground := Ground.phase }, { on := 1, ground := Ground.phase }, { on := 2, ground := Ground.phase }, { on := 3, ground := Ground.phase }, { on := 4, ground := Ground.phase }, { on := 5, ground := Ground.phase }, { on := 6, ground := Ground.phase }, { on := 7, ground := Ground.phase }, { on := 8, ground := Ground.phase }, { on := 9, ground := Ground.phase }, { on := 10, ground := Ground.phase }, { on := 11, ground := Ground.phase }, { on := 12, ground := Ground.phase }, { on := 13, ground := Ground.phase }, { on := 14, ground := Ground.phase }, { on := 15, ground := Ground.phase }], guard := none }) (v := ?_) rfl (by kernel_rfl) (by kernel_rfl) (by kernel_rfl) (fun _ _ _ h => h) (Or.inl ⟨by rfl, ?_⟩) hHeld ?_
    rotate_left
    · intro w' hSw
      go_simp
      try with_reducible rfl
    try simp only [Act.put, List.setIfInBounds_toArray, List.set_cons_zero, List.set_cons_succ]
    refine wpAnyH_done (by kernel_rfl) ?_ _
    go_wp2_with (fail)
    go_ret2
    exact ⟨_, rfl, enc5_fin HE3.out HE4.out HE5.out HE6.out HE7.out HE8.out HS.out⟩
end Go.Proofs.YtknaaaphdjdaoaaDoor
