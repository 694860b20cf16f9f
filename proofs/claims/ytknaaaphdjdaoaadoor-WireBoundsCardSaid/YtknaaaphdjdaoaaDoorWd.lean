/-
  WireBounds' walk.
-/
import Derived.Test.YtknaaaphdjdaoaaDoorWp
import Derived.Test.YtknaaaphdjdaoaaDoorSn
namespace Go.Proofs.YtknaaaphdjdaoaaDoor
open Go.RowKit Mem
set_option linter.unusedVariables false
set_option linter.unusedSimpArgs false

theorem rt4 (fr tt tm ix rd : Int) (ok : Bool) (b : Bool) (hb : rightB (m4 fr tt tm ix rd ok) = b) (w : World) : Calls Tryd.prog 12 #[.agg #[.int .i64 4, .int .i64 fr, .int .i64 tt, .int .i64 tm, .int .i64 ix, .int .i64 0, .int .i64 0, .int .i64 rd, .bool ok, .slice none 0 0, .int .i64 0, .int .i64 0, .slice none 0 0, .slice none 0 0]] w fun en w' => en = .returned (.bool b) ∧ Mod (fun _ => False) w w' := by
  have := rtok_4 fr tt tm ix 0 0 rd ok [] 0 0 [] [] _ _ _ w (lv_nil w _ rfl rfl rfl)
  rw [← hb]
  exact this
set_option maxRecDepth 100000 in
set_option maxHeartbeats 3200000 in
theorem wireBounds_walk (fr tt tm ix rd : Int) (ok : Bool) (w : World) (hg : ErrT w) :
    Calls Tryd.prog 6 #[.int .i64 fr, .int .i64 tt, .int .i64 tm, .int .i64 ix, .int .i64 rd, .bool ok] w fun e w' => e = .returned (.bool true) ∧ Mod (fun _ => False) w w' := by
  go_enter Tryd.func6, Tryd.ntmps6
  go_wp2_with (fail)
  refine (shown_any w hg).mono ?_
  rintro e w1 ⟨rfl, hm1⟩
  have HM1 := Lib.hid hm1
  clear hm1 hg
  go_upto_region 3 with (fail)
  go_cut [15] (fun v wx => v = .bool (decide (1 ≤ fr ∧ fr ≤ 5 ∧ 1 ≤ tt ∧ tt ≤ 5 ∧ fr ≠ tt ∧ 1 ≤ tm ∧ tm ≤ 999999 ∧ 0 ≤ ix ∧ ix ≤ 999999 ∧ 0 ≤ rd ∧ rd ≤ 1073741824)) ∧ wx = w1.alloc (Obj.cells #[.int .i64 4, .int .i64 fr, .int .i64 tt, .int .i64 tm, .int .i64 ix, .int .i64 0, .int .i64 0, .int .i64 rd, .bool ok, .slice none 0 0, .int .i64 0, .int .i64 0, .slice none 0 0, .slice none 0 0] 28))
  case first =>
    obtain ⟨q, hq⟩ : ∃ q : Bool, (fr != tt) = q := ⟨_, rfl⟩
    have HQ : Hid (q = true ↔ fr ≠ tt) := Lib.hid (by rw [← hq]; simp)
    cases q <;> by_cases hrd : rd ≤ 1073741824
    all_goals go_wp2_with (fail)
    all_goals
      go_meet
      case rel =>
        refine ⟨?_, rfl⟩
        have hq3 := HQ.out
        clear HQ hq HM1
        first
          | (rw [decide_eq_true (by simp at hq3; omega)]; done)
          | (rw [decide_eq_false (by simp at hq3; omega)]; done)
  case rest =>
    obtain ⟨rfl, rfl⟩ := hcut
    have hr := right4 fr tt tm ix rd ok
    have hBx0 := Blk.new w1 #[.int .i64 4, .int .i64 fr, .int .i64 tt, .int .i64 tm, .int .i64 ix, .int .i64 0, .int .i64 0, .int .i64 rd, .bool ok, .slice none 0 0, .int .i64 0, .int .i64 0, .slice none 0 0, .slice none 0 0] 28
    have hal : Mod (fun _ => False) w1 (w1.alloc (Obj.cells #[.int .i64 4, .int .i64 fr, .int .i64 tt, .int .i64 tm, .int .i64 ix, .int .i64 0, .int .i64 0, .int .i64 rd, .bool ok, .slice none 0 0, .int .i64 0, .int .i64 0, .slice none 0 0, .slice none 0 0] 28)) := (Mod.refl _ w1).alloc _
    by_cases hmay : 1 ≤ fr ∧ fr ≤ 5 ∧ 1 ≤ tt ∧ tt ≤ 5 ∧ fr ≠ tt ∧ 1 ≤ tm ∧ tm ≤ 999999 ∧ 0 ≤ ix ∧ ix ≤ 999999 ∧ 0 ≤ rd ∧ rd ≤ 1073741824
    · rw [decide_eq_true hmay] at hr ⊢
      obtain ⟨F, rfl⟩ : ∃ F : Nat, fr = F := ⟨fr.toNat, by omega⟩
      obtain ⟨T, rfl⟩ : ∃ T : Nat, tt = T := ⟨tt.toNat, by omega⟩
      obtain ⟨M, rfl⟩ : ∃ M : Nat, tm = M := ⟨tm.toNat, by omega⟩
      obtain ⟨I, rfl⟩ : ∃ I : Nat, ix = I := ⟨ix.toNat, by omega⟩
      obtain ⟨R, rfl⟩ : ∃ R : Nat, rd = R := ⟨rd.toNat, by omega⟩
      have hF : F ≤ 5 := by omega
      have hT : T ≤ 5 := by omega
      have hM : M ≤ 999999 := by omega
      have hI : I ≤ 999999 := by omega
      have hR : R ≤ 1073741824 := by omega
      have hrd := E4_read F T M I R ok hF hT hM hI hR
      have hdc := E4_dec F T M I R ok hF hT hM hI hR hr
      have hle := E4_len F T M I R ok
      obtain ⟨E, hE⟩ : ∃ E, E4 F T M I R ok = E := ⟨_, rfl⟩
      have hEq := E4_eq F T M I R ok
      rw [hE] at hrd hdc hle hEq
      have HRD := Lib.hid hrd
      have HDC := Lib.hid hdc
      have HEQ := Lib.hid hEq
      have HLE := Lib.hid hle
      have HR := Lib.hid (rt4 (F : Int) (T : Int) (M : Int) (I : Int) (R : Int) ok true hr)
      have HB0 := Lib.hid hBx0
      have HAL := Lib.hid hal
      have HBD := Lib.hid hmay
      clear hF hT hM hI hR hrd hdc hle hEq hE hr hBx0 hal hmay
      go_wp2_with (fail)
      refine (enc_4 (F : Int) (T : Int) (M : Int) (I : Int) 0 0 (R : Int) 0 0 ok none none none 0 0 0 0 0 0 _ (by have := HBD.out; omega) (by have := HBD.out; omega) (by have := HBD.out; omega) (by have := HBD.out; omega) (by have := HBD.out; omega) (fun w' _ => HR.out w')).mono ?_
      rintro e w2 ⟨v, rfl, hO, hm2⟩
      rw [HEQ.out] at hO
      have HB2 := Lib.hid (HB0.out.mod hm2 (fun h => h))
      have HM2 := Lib.hid (md_then HM1.out (md_then HAL.out hm2))
      have HO2 := Lib.hid hO
      obtain ⟨a, c, rfl⟩ := hO.val
      clear hO hm2 HB0 HAL HEQ HM1
      go_wp2_with (fail)
      refine (dec_any a _ c E _ HO2.out.rd (by have := HLE.out; omega) HRD.out.1 (fun m k h => by
        obtain ⟨k2, h2, _⟩ := HRD.out.2
        rw [h] at h2
        injection h2 with h2
        injection h2 with h2
        rw [h2]
        exact rtok_4 _ _ _ _ _ _ _ _ _ _ _ _ _)).mono ?_
      rw [HDC.out]
      rintro e w3 ⟨ev, nv, dv, rfl, hlv, hm3⟩
      obtain ⟨e1, e3, rfl⟩ := hlv.1.val
      obtain ⟨n1, n3, rfl⟩ := hlv.2.1.val
      obtain ⟨d1, d3, rfl⟩ := hlv.2.2.val
      have hd : RdC w3 (.slice d1 0 d3) [] := hlv.2.2
      have hal3 : Mod (fun _ => False) w3 (w3.alloc (Obj.cells #[.int .i64 4, .int .i64 (F : Int), .int .i64 (T : Int), .int .i64 (M : Int), .int .i64 (I : Int), .int .i64 0, .int .i64 0, .int .i64 (R : Int), .bool ok, .slice e1 0 e3, .int .i64 0, .int .i64 0, .slice n1 0 n3, .slice d1 0 d3] 28)) := (Mod.refl _ w3).alloc _
      have HD := Lib.hid (hd.mod hal3)
      have HB3 := Lib.hid (HB2.out.mod (md_then hm3 hal3) (fun h => h))
      have HX3 := Lib.hid (Blk.new w3 #[.int .i64 4, .int .i64 (F : Int), .int .i64 (T : Int), .int .i64 (M : Int), .int .i64 (I : Int), .int .i64 0, .int .i64 0, .int .i64 (R : Int), .bool ok, .slice e1 0 e3, .int .i64 0, .int .i64 0, .slice n1 0 n3, .slice d1 0 d3] 28)
      have HM3 := Lib.hid (md_then HM2.out (md_then hm3 hal3))
      unfold lval m4
      simp only [List.length_nil]
      clear hlv hm3 hd hal3 HB2 HM2 HO2 HRD HDC HLE
      have c0 : (w3.alloc (Obj.cells #[.int .i64 4, .int .i64 (F : Int), .int .i64 (T : Int), .int .i64 (M : Int), .int .i64 (I : Int), .int .i64 0, .int .i64 0, .int .i64 (R : Int), .bool ok, .slice e1 0 e3, .int .i64 0, .int .i64 0, .slice n1 0 n3, .slice d1 0 d3] 28)).cell? ⟨w1.heap.size, 0, none⟩ = some (.int .i64 4) := HB3.out.cell 0
      have c1 : (w3.alloc (Obj.cells #[.int .i64 4, .int .i64 (F : Int), .int .i64 (T : Int), .int .i64 (M : Int), .int .i64 (I : Int), .int .i64 0, .int .i64 0, .int .i64 (R : Int), .bool ok, .slice e1 0 e3, .int .i64 0, .int .i64 0, .slice n1 0 n3, .slice d1 0 d3] 28)).cell? ⟨w1.heap.size, 1, none⟩ = some (.int .i64 (F : Int)) := HB3.out.cell 1
      have c2 : (w3.alloc (Obj.cells #[.int .i64 4, .int .i64 (F : Int), .int .i64 (T : Int), .int .i64 (M : Int), .int .i64 (I : Int), .int .i64 0, .int .i64 0, .int .i64 (R : Int), .bool ok, .slice e1 0 e3, .int .i64 0, .int .i64 0, .slice n1 0 n3, .slice d1 0 d3] 28)).cell? ⟨w1.heap.size, 2, none⟩ = some (.int .i64 (T : Int)) := HB3.out.cell 2
      have c3 : (w3.alloc (Obj.cells #[.int .i64 4, .int .i64 (F : Int), .int .i64 (T : Int), .int .i64 (M : Int), .int .i64 (I : Int), .int .i64 0, .int .i64 0, .int .i64 (R : Int), .bool ok, .slice e1 0 e3, .int .i64 0, .int .i64 0, .slice n1 0 n3, .slice d1 0 d3] 28)).cell? ⟨w1.heap.size, 3, none⟩ = some (.int .i64 (M : Int)) := HB3.out.cell 3
      have c4 : (w3.alloc (Obj.cells #[.int .i64 4, .int .i64 (F : Int), .int .i64 (T : Int), .int .i64 (M : Int), .int .i64 (I : Int), .int .i64 0, .int .i64 0, .int .i64 (R : Int), .bool ok, .slice e1 0 e3, .int .i64 0, .int .i64 0, .slice n1 0 n3, .slice d1 0 d3] 28)).cell? ⟨w1.heap.size, 4, none⟩ = some (.int .i64 (I : Int)) := HB3.out.cell 4
      have c5 : (w3.alloc (Obj.cells #[.int .i64 4, .int .i64 (F : Int), .int .i64 (T : Int), .int .i64 (M : Int), .int .i64 (I : Int), .int .i64 0, .int .i64 0, .int .i64 (R : Int), .bool ok, .slice e1 0 e3, .int .i64 0, .int .i64 0, .slice n1 0 n3, .slice d1 0 d3] 28)).cell? ⟨w1.heap.size, 5, none⟩ = some (.int .i64 0) := HB3.out.cell 5
      have c6 : (w3.alloc (Obj.cells #[.int .i64 4, .int .i64 (F : Int), .int .i64 (T : Int), .int .i64 (M : Int), .int .i64 (I : Int), .int .i64 0, .int .i64 0, .int .i64 (R : Int), .bool ok, .slice e1 0 e3, .int .i64 0, .int .i64 0, .slice n1 0 n3, .slice d1 0 d3] 28)).cell? ⟨w1.heap.size, 6, none⟩ = some (.int .i64 0) := HB3.out.cell 6
      have c7 : (w3.alloc (Obj.cells #[.int .i64 4, .int .i64 (F : Int), .int .i64 (T : Int), .int .i64 (M : Int), .int .i64 (I : Int), .int .i64 0, .int .i64 0, .int .i64 (R : Int), .bool ok, .slice e1 0 e3, .int .i64 0, .int .i64 0, .slice n1 0 n3, .slice d1 0 d3] 28)).cell? ⟨w1.heap.size, 7, none⟩ = some (.int .i64 (R : Int)) := HB3.out.cell 7
      have c8 : (w3.alloc (Obj.cells #[.int .i64 4, .int .i64 (F : Int), .int .i64 (T : Int), .int .i64 (M : Int), .int .i64 (I : Int), .int .i64 0, .int .i64 0, .int .i64 (R : Int), .bool ok, .slice e1 0 e3, .int .i64 0, .int .i64 0, .slice n1 0 n3, .slice d1 0 d3] 28)).cell? ⟨w1.heap.size, 8, none⟩ = some (.bool ok) := HB3.out.cell 8
      have c9 : (w3.alloc (Obj.cells #[.int .i64 4, .int .i64 (F : Int), .int .i64 (T : Int), .int .i64 (M : Int), .int .i64 (I : Int), .int .i64 0, .int .i64 0, .int .i64 (R : Int), .bool ok, .slice e1 0 e3, .int .i64 0, .int .i64 0, .slice n1 0 n3, .slice d1 0 d3] 28)).cell? ⟨w1.heap.size, 9, none⟩ = some (.slice none 0 0) := HB3.out.cell 9
      have c10 : (w3.alloc (Obj.cells #[.int .i64 4, .int .i64 (F : Int), .int .i64 (T : Int), .int .i64 (M : Int), .int .i64 (I : Int), .int .i64 0, .int .i64 0, .int .i64 (R : Int), .bool ok, .slice e1 0 e3, .int .i64 0, .int .i64 0, .slice n1 0 n3, .slice d1 0 d3] 28)).cell? ⟨w1.heap.size, 10, none⟩ = some (.int .i64 0) := HB3.out.cell 10
      have c11 : (w3.alloc (Obj.cells #[.int .i64 4, .int .i64 (F : Int), .int .i64 (T : Int), .int .i64 (M : Int), .int .i64 (I : Int), .int .i64 0, .int .i64 0, .int .i64 (R : Int), .bool ok, .slice e1 0 e3, .int .i64 0, .int .i64 0, .slice n1 0 n3, .slice d1 0 d3] 28)).cell? ⟨w1.heap.size, 11, none⟩ = some (.int .i64 0) := HB3.out.cell 11
      have c12 : (w3.alloc (Obj.cells #[.int .i64 4, .int .i64 (F : Int), .int .i64 (T : Int), .int .i64 (M : Int), .int .i64 (I : Int), .int .i64 0, .int .i64 0, .int .i64 (R : Int), .bool ok, .slice e1 0 e3, .int .i64 0, .int .i64 0, .slice n1 0 n3, .slice d1 0 d3] 28)).cell? ⟨w1.heap.size, 12, none⟩ = some (.slice none 0 0) := HB3.out.cell 12
      have c13 : (w3.alloc (Obj.cells #[.int .i64 4, .int .i64 (F : Int), .int .i64 (T : Int), .int .i64 (M : Int), .int .i64 (I : Int), .int .i64 0, .int .i64 0, .int .i64 (R : Int), .bool ok, .slice e1 0 e3, .int .i64 0, .int .i64 0, .slice n1 0 n3, .slice d1 0 d3] 28)).cell? ⟨w1.heap.size, 13, none⟩ = some (.slice none 0 0) := HB3.out.cell 13
      go_wp2_with (fail)
      refine (same_nil _ _ _ _ _ _ _ _ _ _ _ _ _ _ _ _ HD.out).mono ?_
      rintro e w4 ⟨rfl, hm4⟩
      have hBx := HB3.out.mod hm4 (fun h => h)
      have HM4 := Lib.hid (md_then HM3.out hm4)
      clear c0 c1 c2 c3 c4 c5 c6 c7 c8 c9 c10 c11 c12 c13 HB3 HX3 HM3 HD hm4
      have c0 : w4.cell? ⟨w1.heap.size, 0, none⟩ = some (.int .i64 4) := hBx.cell 0
      have c1 : w4.cell? ⟨w1.heap.size, 1, none⟩ = some (.int .i64 (F : Int)) := hBx.cell 1
      have c2 : w4.cell? ⟨w1.heap.size, 2, none⟩ = some (.int .i64 (T : Int)) := hBx.cell 2
      have c3 : w4.cell? ⟨w1.heap.size, 3, none⟩ = some (.int .i64 (M : Int)) := hBx.cell 3
      have c4 : w4.cell? ⟨w1.heap.size, 4, none⟩ = some (.int .i64 (I : Int)) := hBx.cell 4
      have c5 : w4.cell? ⟨w1.heap.size, 5, none⟩ = some (.int .i64 0) := hBx.cell 5
      have c6 : w4.cell? ⟨w1.heap.size, 6, none⟩ = some (.int .i64 0) := hBx.cell 6
      have c7 : w4.cell? ⟨w1.heap.size, 7, none⟩ = some (.int .i64 (R : Int)) := hBx.cell 7
      have c8 : w4.cell? ⟨w1.heap.size, 8, none⟩ = some (.bool ok) := hBx.cell 8
      have c9 : w4.cell? ⟨w1.heap.size, 9, none⟩ = some (.slice none 0 0) := hBx.cell 9
      have c10 : w4.cell? ⟨w1.heap.size, 10, none⟩ = some (.int .i64 0) := hBx.cell 10
      have c11 : w4.cell? ⟨w1.heap.size, 11, none⟩ = some (.int .i64 0) := hBx.cell 11
      have c12 : w4.cell? ⟨w1.heap.size, 12, none⟩ = some (.slice none 0 0) := hBx.cell 12
      have c13 : w4.cell? ⟨w1.heap.size, 13, none⟩ = some (.slice none 0 0) := hBx.cell 13
      clear hBx
      go_wp2_with (fail)
      refine (HR.out w4).mono ?_
      rintro e w5 ⟨rfl, hm5⟩
      have HM5 := Lib.hid (md_then HM4.out hm5)
      clear hm5 HM4 c0 c1 c2 c3 c4 c5 c6 c7 c8 c9 c10 c11 c12 c13
      go_wp2_with (fail)
      go_ret
      exact ⟨rfl, HM5.out⟩
    · rw [decide_eq_false hmay] at hr ⊢
      have HR := Lib.hid (rt4 fr tt tm ix rd ok false hr)
      have HB0 := Lib.hid hBx0
      have HAL := Lib.hid hal
      clear hr hBx0 hal hmay
      go_wp2_with (fail)
      refine (enc_bad 4 fr tt tm ix 0 0 rd 0 0 ok none none none 0 0 0 0 0 0 _ (fun w' _ => HR.out w')).mono ?_
      rintro e w2 ⟨rfl, hm2⟩
      have hBx := HB0.out.mod hm2 (fun h => h)
      have HM2 := Lib.hid (md_then HM1.out (md_then HAL.out hm2))
      clear hm2 HB0 HAL HM1
      have c0 : w2.cell? ⟨w1.heap.size, 0, none⟩ = some (.int .i64 4) := hBx.cell 0
      have c1 : w2.cell? ⟨w1.heap.size, 1, none⟩ = some (.int .i64 fr) := hBx.cell 1
      have c2 : w2.cell? ⟨w1.heap.size, 2, none⟩ = some (.int .i64 tt) := hBx.cell 2
      have c3 : w2.cell? ⟨w1.heap.size, 3, none⟩ = some (.int .i64 tm) := hBx.cell 3
      have c4 : w2.cell? ⟨w1.heap.size, 4, none⟩ = some (.int .i64 ix) := hBx.cell 4
      have c5 : w2.cell? ⟨w1.heap.size, 5, none⟩ = some (.int .i64 0) := hBx.cell 5
      have c6 : w2.cell? ⟨w1.heap.size, 6, none⟩ = some (.int .i64 0) := hBx.cell 6
      have c7 : w2.cell? ⟨w1.heap.size, 7, none⟩ = some (.int .i64 rd) := hBx.cell 7
      have c8 : w2.cell? ⟨w1.heap.size, 8, none⟩ = some (.bool ok) := hBx.cell 8
      have c9 : w2.cell? ⟨w1.heap.size, 9, none⟩ = some (.slice none 0 0) := hBx.cell 9
      have c10 : w2.cell? ⟨w1.heap.size, 10, none⟩ = some (.int .i64 0) := hBx.cell 10
      have c11 : w2.cell? ⟨w1.heap.size, 11, none⟩ = some (.int .i64 0) := hBx.cell 11
      have c12 : w2.cell? ⟨w1.heap.size, 12, none⟩ = some (.slice none 0 0) := hBx.cell 12
      have c13 : w2.cell? ⟨w1.heap.size, 13, none⟩ = some (.slice none 0 0) := hBx.cell 13
      clear hBx
      go_wp2_with (fail)
      refine (HR.out w2).mono ?_
      rintro e w5 ⟨rfl, hm5⟩
      have HM5 := Lib.hid (md_then HM2.out hm5)
      clear hm5 HM2 c0 c1 c2 c3 c4 c5 c6 c7 c8 c9 c10 c11 c12 c13
      go_wp2_with (fail)
      go_ret
      exact ⟨rfl, HM5.out⟩
end Go.Proofs.YtknaaaphdjdaoaaDoor
