/-
  shown.
-/
import Derived.Test.YtknaaaphdjdaoaaDoorTa
import Derived.Test.YtknaaaphdjdaoaaDoorEc
import Derived.Test.YtknaaaphdjdaoaaDoorDd
import Derived.Test.YtknaaaphdjdaoaaDoorLf
namespace Go.Proofs.YtknaaaphdjdaoaaDoor
open Go.RowKit Mem
set_option linter.unusedVariables false
set_option linter.unusedSimpArgs false

theorem rtok_2 (fr tt tm ix lt cm rd : Int) (ok : Bool) (es : List En) (si st : Int) (sn : List Int) (sd : Bs) : RtOk ⟨2, fr, tt, tm, ix, lt, cm, rd, ok, es, si, st, sn, sd⟩ := fun ev nv dv w h => by
  by_cases a : bw fr 1 5 = true ∧ bw tt 1 5 = true ∧ (fr == tt) = false ∧ bw tm 1 999999 = true
  · exact right_2 fr tt tm ix lt cm rd ok es si st sn sd ev nv dv w a.1 a.2.1 a.2.2.1 a.2.2.2 h
  · exact right_bad 2 fr tt tm ix lt cm rd ok es si st sn sd ev nv dv w a h
theorem rtok_4 (fr tt tm ix lt cm rd : Int) (ok : Bool) (es : List En) (si st : Int) (sn : List Int) (sd : Bs) : RtOk ⟨4, fr, tt, tm, ix, lt, cm, rd, ok, es, si, st, sn, sd⟩ := fun ev nv dv w h => by
  by_cases a : bw fr 1 5 = true ∧ bw tt 1 5 = true ∧ (fr == tt) = false ∧ bw tm 1 999999 = true
  · exact right_4 fr tt tm ix lt cm rd ok es si st sn sd ev nv dv w a.1 a.2.1 a.2.2.1 a.2.2.2 h
  · exact right_bad 4 fr tt tm ix lt cm rd ok es si st sn sd ev nv dv w a h
theorem lv_nil (w : World) (m : Lt) (h1 : m.es = []) (h2 : m.sn = []) (h3 : m.sd = []) : LV w (.slice none 0 0) (.slice none 0 0) (.slice none 0 0) m :=
  ⟨.inl ⟨rfl, h1⟩, .inl ⟨rfl, h2⟩, .inl ⟨rfl, h3⟩, none, 0, by rw [h3]; rfl, by rw [h3]; exact Nat.le_refl _, Nat.zero_le _⟩
theorem sh_1 : nb [2, 9] 0 5 = .ok (2, 1) := by rfl
theorem sh_2 : nb [2, 9] 1 5 = .error 1 := by rfl
theorem sh_l : letterR [2, 9] = .error 1 := by unfold letterR; rw [sh_1]; simp only [thn_ok]; rw [sh_2]; rfl
theorem sh_d : decR [2, 9] = .error 1 := by unfold decR; rw [sh_l]
theorem sh_let : LetOk [2, 9] := fun B r bv w h => letter_e2 B r bv [2, 9] 2 1 1 w h sh_1 sh_2
theorem sh_r : rightB ⟨2, 1, 2, 3, 0, 0, 0, 0, true, [], 0, 0, [], []⟩ = true := by decide
set_option maxRecDepth 100000 in
set_option maxHeartbeats 3200000 in
theorem shown_any (w : World) (hg : ErrT w) :
    Calls Tryd.prog 7 #[] w fun e w' => e = .returned (.bool true) ∧ Mod (fun _ => False) w w' := by
  have HG := Lib.hid hg
  have hR := rtok_2 1 2 3 0 0 0 0 true [] 0 0 [] []
  unfold RtOk at hR
  rw [sh_r] at hR
  have hR2 : ∀ w', Calls Tryd.prog 12 #[.agg #[.int .i64 2, .int .i64 1, .int .i64 2, .int .i64 3, .int .i64 0, .int .i64 0, .int .i64 0, .int .i64 0, .bool true, .slice none 0 0, .int .i64 0, .int .i64 0, .slice none 0 0, .slice none 0 0]] w' fun en w2 => en = .returned (.bool true) ∧ Mod (fun _ => False) w' w2 := fun w' => hR _ _ _ w' (lv_nil w' _ rfl rfl rfl)
  clear hg hR
  go_enter Tryd.func7, Tryd.ntmps7
  go_wp2_with (fail)
  refine (enc_2 1 2 3 0 0 0 0 0 0 true none none none 0 0 0 0 0 0 _ (by omega) (by omega) (by omega) (fun w' _ => hR2 w')).mono ?_
  rintro e w1 ⟨v, rfl, hO, hm1⟩
  rw [show pnz [2, 1, 2, 3] ++ pnz [bitN true] = [2, 1, 2, 3, 1] by decide] at hO
  have hB0 := Blk.new w #[.int .i64 2, .int .i64 1, .int .i64 2, .int .i64 3, .int .i64 0, .int .i64 0, .int .i64 0, .int .i64 0, .bool true, .slice none 0 0, .int .i64 0, .int .i64 0, .slice none 0 0, .slice none 0 0] 28
  have HB1 := Lib.hid (hB0.mod hm1 (fun h => h))
  have HM1 := Lib.hid (md_al hm1)
  have HO1 := Lib.hid hO
  obtain ⟨a, c, rfl⟩ := hO.val
  clear hO hm1 hB0
  show _
  simp only [show ([2, 1, 2, 3, 1] : Bs).length = 5 from rfl]
  go_wp2_with (fail)
  refine (dec_any (some ⟨w1.heap.size, 0, none⟩) 2 2 [2, 9] _ ⟨.inr ⟨⟨w1.heap.size, 0, none⟩, 2, rfl, fun j u hj => by
    rw [Addr.add_lit, Nat.zero_add, alloc_cell, ← Array.getElem?_toList]
    exact hj⟩, _, 2, rfl, Nat.le_refl _, by decide⟩ (by decide) sh_let (fun m k h => by rw [sh_l] at h; cases h)).mono ?_
  rw [sh_d]
  rintro e w2 ⟨fb, rfl, hF, hm2⟩
  have hal : Mod (fun _ => False) w2 (w2.alloc (Obj.cells #[.int .i64 0, .int .i64 0, .int .i64 0, .int .i64 0, .int .i64 0, .int .i64 0, .int .i64 0, .int .i64 0, .bool false, .slice none 0 0, .int .i64 0, .int .i64 0, .slice none 0 0, .slice none 0 0] 28)) := (Mod.refl _ w2).alloc _
  have HM2 := Lib.hid (md_then (md_then HM1.out (md_al hm2)) hal)
  have HB2 := Lib.hid ((HB1.out.mod (md_al hm2) (fun h => h)).mod hal (fun h => h))
  have HF := Lib.hid (hF.mod hal (fun h => h))
  have x1 : (convert 24 9 (.slice a 5 c)).run Tryd.prog (w2.alloc (Obj.cells #[.int .i64 0, .int .i64 0, .int .i64 0, .int .i64 0, .int .i64 0, .int .i64 0, .int .i64 0, .int .i64 0, .bool false, .slice none 0 0, .int .i64 0, .int .i64 0, .slice none 0 0, .slice none 0 0] 28)) = .ok (.string (sv [2, 1, 2, 3, 1])) (w2.alloc (Obj.cells #[.int .i64 0, .int .i64 0, .int .i64 0, .int .i64 0, .int .i64 0, .int .i64 0, .int .i64 0, .int .i64 0, .bool false, .slice none 0 0, .int .i64 0, .int .i64 0, .slice none 0 0, .slice none 0 0] 28)) := ((HO1.out.mod (md_al hm2)).mod hal).text
  have t1 : (sv [2, 1, 2, 3, 1]).toList = [2, 1, 2, 3, 1] := sv_toList _
  have c0 : (w2.alloc (Obj.cells #[.int .i64 0, .int .i64 0, .int .i64 0, .int .i64 0, .int .i64 0, .int .i64 0, .int .i64 0, .int .i64 0, .bool false, .slice none 0 0, .int .i64 0, .int .i64 0, .slice none 0 0, .slice none 0 0] 28)).cell? ⟨w.heap.size, 0, none⟩ = some (.int .i64 2) := HB2.out.cell 0
  have c1 : (w2.alloc (Obj.cells #[.int .i64 0, .int .i64 0, .int .i64 0, .int .i64 0, .int .i64 0, .int .i64 0, .int .i64 0, .int .i64 0, .bool false, .slice none 0 0, .int .i64 0, .int .i64 0, .slice none 0 0, .slice none 0 0] 28)).cell? ⟨w.heap.size, 1, none⟩ = some (.int .i64 1) := HB2.out.cell 1
  have c2 : (w2.alloc (Obj.cells #[.int .i64 0, .int .i64 0, .int .i64 0, .int .i64 0, .int .i64 0, .int .i64 0, .int .i64 0, .int .i64 0, .bool false, .slice none 0 0, .int .i64 0, .int .i64 0, .slice none 0 0, .slice none 0 0] 28)).cell? ⟨w.heap.size, 2, none⟩ = some (.int .i64 2) := HB2.out.cell 2
  have c3 : (w2.alloc (Obj.cells #[.int .i64 0, .int .i64 0, .int .i64 0, .int .i64 0, .int .i64 0, .int .i64 0, .int .i64 0, .int .i64 0, .bool false, .slice none 0 0, .int .i64 0, .int .i64 0, .slice none 0 0, .slice none 0 0] 28)).cell? ⟨w.heap.size, 3, none⟩ = some (.int .i64 3) := HB2.out.cell 3
  have c4 : (w2.alloc (Obj.cells #[.int .i64 0, .int .i64 0, .int .i64 0, .int .i64 0, .int .i64 0, .int .i64 0, .int .i64 0, .int .i64 0, .bool false, .slice none 0 0, .int .i64 0, .int .i64 0, .slice none 0 0, .slice none 0 0] 28)).cell? ⟨w.heap.size, 4, none⟩ = some (.int .i64 0) := HB2.out.cell 4
  have c5 : (w2.alloc (Obj.cells #[.int .i64 0, .int .i64 0, .int .i64 0, .int .i64 0, .int .i64 0, .int .i64 0, .int .i64 0, .int .i64 0, .bool false, .slice none 0 0, .int .i64 0, .int .i64 0, .slice none 0 0, .slice none 0 0] 28)).cell? ⟨w.heap.size, 5, none⟩ = some (.int .i64 0) := HB2.out.cell 5
  have c6 : (w2.alloc (Obj.cells #[.int .i64 0, .int .i64 0, .int .i64 0, .int .i64 0, .int .i64 0, .int .i64 0, .int .i64 0, .int .i64 0, .bool false, .slice none 0 0, .int .i64 0, .int .i64 0, .slice none 0 0, .slice none 0 0] 28)).cell? ⟨w.heap.size, 6, none⟩ = some (.int .i64 0) := HB2.out.cell 6
  have c7 : (w2.alloc (Obj.cells #[.int .i64 0, .int .i64 0, .int .i64 0, .int .i64 0, .int .i64 0, .int .i64 0, .int .i64 0, .int .i64 0, .bool false, .slice none 0 0, .int .i64 0, .int .i64 0, .slice none 0 0, .slice none 0 0] 28)).cell? ⟨w.heap.size, 7, none⟩ = some (.int .i64 0) := HB2.out.cell 7
  have c8 : (w2.alloc (Obj.cells #[.int .i64 0, .int .i64 0, .int .i64 0, .int .i64 0, .int .i64 0, .int .i64 0, .int .i64 0, .int .i64 0, .bool false, .slice none 0 0, .int .i64 0, .int .i64 0, .slice none 0 0, .slice none 0 0] 28)).cell? ⟨w.heap.size, 8, none⟩ = some (.bool true) := HB2.out.cell 8
  have c9 : (w2.alloc (Obj.cells #[.int .i64 0, .int .i64 0, .int .i64 0, .int .i64 0, .int .i64 0, .int .i64 0, .int .i64 0, .int .i64 0, .bool false, .slice none 0 0, .int .i64 0, .int .i64 0, .slice none 0 0, .slice none 0 0] 28)).cell? ⟨w.heap.size, 9, none⟩ = some (.slice none 0 0) := HB2.out.cell 9
  have c10 : (w2.alloc (Obj.cells #[.int .i64 0, .int .i64 0, .int .i64 0, .int .i64 0, .int .i64 0, .int .i64 0, .int .i64 0, .int .i64 0, .bool false, .slice none 0 0, .int .i64 0, .int .i64 0, .slice none 0 0, .slice none 0 0] 28)).cell? ⟨w.heap.size, 10, none⟩ = some (.int .i64 0) := HB2.out.cell 10
  have c11 : (w2.alloc (Obj.cells #[.int .i64 0, .int .i64 0, .int .i64 0, .int .i64 0, .int .i64 0, .int .i64 0, .int .i64 0, .int .i64 0, .bool false, .slice none 0 0, .int .i64 0, .int .i64 0, .slice none 0 0, .slice none 0 0] 28)).cell? ⟨w.heap.size, 11, none⟩ = some (.int .i64 0) := HB2.out.cell 11
  have c12 : (w2.alloc (Obj.cells #[.int .i64 0, .int .i64 0, .int .i64 0, .int .i64 0, .int .i64 0, .int .i64 0, .int .i64 0, .int .i64 0, .bool false, .slice none 0 0, .int .i64 0, .int .i64 0, .slice none 0 0, .slice none 0 0] 28)).cell? ⟨w.heap.size, 12, none⟩ = some (.slice none 0 0) := HB2.out.cell 12
  have c13 : (w2.alloc (Obj.cells #[.int .i64 0, .int .i64 0, .int .i64 0, .int .i64 0, .int .i64 0, .int .i64 0, .int .i64 0, .int .i64 0, .bool false, .slice none 0 0, .int .i64 0, .int .i64 0, .slice none 0 0, .slice none 0 0] 28)).cell? ⟨w.heap.size, 13, none⟩ = some (.slice none 0 0) := HB2.out.cell 13
  unfold zcells
  clear hm2 hF HM1 HB1 HO1 hal
  go_wp2_with (fail)
  refine (hR2 _).mono ?_
  rintro e w3 ⟨rfl, hm3⟩
  have HM3 := Lib.hid (md_then HM2.out hm3)
  have HF3 := Lib.hid (HF.out.mod hm3 (fun h => h))
  clear hm3 HM2 HF HB2 hR2 c0 c1 c2 c3 c4 c5 c6 c7 c8 c9 c10 c11 c12 c13 x1
  go_wp2_with (fail)
  refine (fault_hit fb 1 12 w3 (HG.out.mod HM3.out) HF3.out).mono ?_
  rintro e w4 ⟨rfl, hm4⟩
  have HM4 := Lib.hid (md_then HM3.out hm4)
  clear hm4 HM3 HF3
  go_wp2_with (fail)
  go_ret
  exact ⟨rfl, HM4.out⟩
end Go.Proofs.YtknaaaphdjdaoaaDoor
