/-
  The reader: letters, more of them.
  The reader: letters that are none.
-/
import Derived.Test.YtknaaaphdjdaoaaDoorLe
section
namespace Go.Proofs.YtknaaaphdjdaoaaDoor
open Go.RowKit Mem
set_option linter.unusedVariables false
set_option linter.unusedSimpArgs false

set_option maxRecDepth 100000 in
set_option maxHeartbeats 3200000 in
theorem letter_2 (B : Nat) (r : Nat) (bv : Value) (l : Bs) (fr tt tm k1 k2 k3 k4 : Nat) (w : World) (h : Rr B w r bv l 0) (hn1 : nb l 0 5 = .ok (2, k1)) (hn2 : nb l k1 5 = .ok (fr, k2)) (hn3 : nb l k2 5 = .ok (tt, k3)) (hn4 : nb l k3 999999 = .ok (tm, k4)) :
    Calls Tryd.prog 38 #[.pointer (some ⟨r, 0, none⟩)] w (Reads (IsL w) B r bv l w (letterR l)) := by
  have hO1 : letterR l = restR l 2 fr tt tm k4 := by unfold letterR; simp only [hn1, hn2, hn3, hn4, thn]
  obtain ⟨O, hO⟩ : ∃ O, letterR l = O := ⟨_, rfl⟩
  rw [hO]
  rw [hO] at hO1
  have HO := Lib.hid hO1
  have hwm : Mod (· = r) w (w.alloc (Obj.cells #[Value.int IntKind.i64 0, Value.int IntKind.i64 0, Value.int IntKind.i64 0, Value.int IntKind.i64 0, Value.int IntKind.i64 0, Value.int IntKind.i64 0, Value.int IntKind.i64 0, Value.int IntKind.i64 0, Value.bool false, Value.slice none 0 0, Value.int IntKind.i64 0, Value.int IntKind.i64 0, Value.slice none 0 0, Value.slice none 0 0] 28)) := (Mod.refl _ w).alloc _
  have hres := Blk.new w #[Value.int IntKind.i64 0, Value.int IntKind.i64 0, Value.int IntKind.i64 0, Value.int IntKind.i64 0, Value.int IntKind.i64 0, Value.int IntKind.i64 0, Value.int IntKind.i64 0, Value.int IntKind.i64 0, Value.bool false, Value.slice none 0 0, Value.int IntKind.i64 0, Value.int IntKind.i64 0, Value.slice none 0 0, Value.slice none 0 0] 28
  have hr0 := h.of_alloc (Obj.cells #[Value.int IntKind.i64 0, Value.int IntKind.i64 0, Value.int IntKind.i64 0, Value.int IntKind.i64 0, Value.int IntKind.i64 0, Value.int IntKind.i64 0, Value.int IntKind.i64 0, Value.int IntKind.i64 0, Value.bool false, Value.slice none 0 0, Value.int IntKind.i64 0, Value.int IntKind.i64 0, Value.slice none 0 0, Value.slice none 0 0] 28)
  have hrw : r < w.heap.size := h.1.lt
  have HRW := Lib.hid hrw
  have HBW := Lib.hid h.2.2.2.2.2.2
  obtain ⟨w0, hw0⟩ : ∃ w0, w.alloc (Obj.cells #[Value.int IntKind.i64 0, Value.int IntKind.i64 0, Value.int IntKind.i64 0, Value.int IntKind.i64 0, Value.int IntKind.i64 0, Value.int IntKind.i64 0, Value.int IntKind.i64 0, Value.int IntKind.i64 0, Value.bool false, Value.slice none 0 0, Value.int IntKind.i64 0, Value.int IntKind.i64 0, Value.slice none 0 0, Value.slice none 0 0] 28) = w0 := ⟨_, rfl⟩
  rw [hw0] at hwm hres hr0
  have hx1 := number_any B r bv l 0 5 (by omega) w0 hr0
  rw [hn1] at hx1
  have HM0 := Lib.hid hwm
  have HB0 := Lib.hid hres
  clear h hO hO1 hwm hres hr0 hrw
  go_enter Tryd.func38, Tryd.ntmps38
  go_wp2_with (fail)
  clear hw0
  refine hx1.mono ?_
  rintro e w1 ⟨rfl, hr1, hm1⟩
  have HM1 := Lib.hid (md_r HM0.out hm1)
  have HB1 := Lib.hid (HB0.out.mod hm1 (by have := HRW.out; omega))
  have hx2 := number_any B r bv l k1 5 (by omega) w1 hr1
  rw [hn2] at hx2
  clear hx1 hr1 hm1 HM0 HB0
  go_wp2_with (fail)
  refine hx2.mono ?_
  rintro e w2 ⟨rfl, hr2, hm2⟩
  have HM2 := Lib.hid (md_r HM1.out hm2)
  have HB2 := Lib.hid (HB1.out.mod hm2 (by have := HRW.out; omega))
  have hx3 := number_any B r bv l k2 5 (by omega) w2 hr2
  rw [hn3] at hx3
  clear hx2 hr2 hm2 HM1 HB1
  go_wp2_with (fail)
  refine hx3.mono ?_
  rintro e w3 ⟨rfl, hr3, hm3⟩
  have HM3 := Lib.hid (md_r HM2.out hm3)
  have HB3 := Lib.hid (HB2.out.mod hm3 (by have := HRW.out; omega))
  have hx4 := number_any B r bv l k3 999999 (by omega) w3 hr3
  rw [hn4] at hx4
  clear hx3 hr3 hm3 HM2 HB2
  go_wp2_with (fail)
  refine hx4.mono ?_
  rintro e w4 ⟨rfl, hr4, hm4⟩
  have HM4 := Lib.hid (md_r HM3.out hm4)
  have HB4 := Lib.hid (HB3.out.mod hm4 (by have := HRW.out; omega))
  have HR4 := Lib.hid hr4
  clear hx4 hr4 hm4 HM3 HB3 hn1 hn2 hn3 hn4
  go_wp2_with (fail)
  have hO1 := HO.out
  unfold restR at hO1
  rw [if_neg (by decide), if_neg (by decide), if_pos rfl] at hO1
  clear HO
  have HO := Lib.hid hO1
  clear hO1
  have hG0 := Blk.new w4 #[.int .i64 (2 : Int), .int .i64 (fr : Int), .int .i64 (tt : Int), .int .i64 (tm : Int), .int .i64 (0 : Int), .int .i64 (0 : Int), .int .i64 (0 : Int), .int .i64 (0 : Int), .bool false, .slice none 0 0, .int .i64 (0 : Int), .int .i64 (0 : Int), .slice none 0 0, .slice none 0 0] 28
  obtain ⟨G, hG⟩ : ∃ G, w4.heap.size = G := ⟨_, rfl⟩
  rw [hG] at hG0
  have hGr : r < G := by have := HRW.out; have := HM4.out.size; omega
  have hGw : w.heap.size < G := by rw [← hG]; exact HB4.out.lt
  have HGR := Lib.hid hGr
  have hne : ¬ w.heap.size = G := by omega
  have hne' : ¬ G = w.heap.size := by omega
  have hM5 := HM4.out.alloc (.cells #[.int .i64 (2 : Int), .int .i64 (fr : Int), .int .i64 (tt : Int), .int .i64 (tm : Int), .int .i64 (0 : Int), .int .i64 (0 : Int), .int .i64 (0 : Int), .int .i64 (0 : Int), .bool false, .slice none 0 0, .int .i64 (0 : Int), .int .i64 (0 : Int), .slice none 0 0, .slice none 0 0] 28)
  have hB5 := HB4.out.alloc (.cells #[.int .i64 (2 : Int), .int .i64 (fr : Int), .int .i64 (tt : Int), .int .i64 (tm : Int), .int .i64 (0 : Int), .int .i64 (0 : Int), .int .i64 (0 : Int), .int .i64 (0 : Int), .bool false, .slice none 0 0, .int .i64 (0 : Int), .int .i64 (0 : Int), .slice none 0 0, .slice none 0 0] 28)
  have hR5 := HR4.out.of_alloc (.cells #[.int .i64 (2 : Int), .int .i64 (fr : Int), .int .i64 (tt : Int), .int .i64 (tm : Int), .int .i64 (0 : Int), .int .i64 (0 : Int), .int .i64 (0 : Int), .int .i64 (0 : Int), .bool false, .slice none 0 0, .int .i64 (0 : Int), .int .i64 (0 : Int), .slice none 0 0, .slice none 0 0] 28)
  obtain ⟨w5, hw5⟩ : ∃ w5, w4.alloc (.cells #[.int .i64 (2 : Int), .int .i64 (fr : Int), .int .i64 (tt : Int), .int .i64 (tm : Int), .int .i64 (0 : Int), .int .i64 (0 : Int), .int .i64 (0 : Int), .int .i64 (0 : Int), .bool false, .slice none 0 0, .int .i64 (0 : Int), .int .i64 (0 : Int), .slice none 0 0, .slice none 0 0] 28) = w5 := ⟨_, rfl⟩
  rw [hw5] at hG0 hM5 hB5 hR5
  have HM5 := Lib.hid hM5
  have HB5 := Lib.hid hB5
  have HR5 := Lib.hid hR5
  have HL5 := Lib.hid hG0
  have HGW := Lib.hid hGw
  clear hM5 hB5 hR5 hG0 HM4 HB4 HR4 hGr hGw
  simp only [hG, hw5]
  clear hw5
  have hx := number_any B r bv l k4 1 (by omega) w5 HR5.out
  refine hx.mono ?_
  intro e w6 hR
  cases hnb : nb l k4 1 with
  | error p =>
    rw [hnb] at hR
    obtain ⟨rfl, hm⟩ := hR
    have hO2 := HO.out
    rw [hnb, thn_err] at hO2
    have HE := Lib.hid hO2
    have HM6 := Lib.hid (md_r HM5.out hm)
    clear hx hnb hO2 hm HO HM5 HB5 HR5 HL5
    go_wp2_with (fail)
    refine ⟨rfl, ?_⟩
    rw [HE.out]
    exact ⟨rfl, HM6.out⟩
  | ok x =>
    obtain ⟨b, k6⟩ := x
    rw [hnb] at hR
    obtain ⟨rfl, hr, hm⟩ := hR
    have hO2 := HO.out
    rw [hnb] at hO2
    simp only [thn_ok] at hO2
    have hleb := (nb_le HR5.out.2.2.2.1 hnb).1
    clear HO
    have HO := Lib.hid hO2
    have HM6 := Lib.hid (md_r HM5.out hm)
    have HB6 := Lib.hid (HB5.out.mod hm (by have := HRW.out; omega))
    have HL6 := Lib.hid (HL5.out.mod hm (by have := HGR.out; omega))
    have HR6 := Lib.hid hr
    skip
    clear hx hnb hO2 hm hr HM5 HB5 HR5 HL5
    obtain ⟨bb, hbb⟩ : ∃ x : Bool, (b == 1) = x := ⟨_, rfl⟩
    have hb1 : ((b : Int) == 1) = bb := by rw [← hbb, Bool.eq_iff_iff]; simp; try omega
    have hO3 := HO.out
    simp only [hbb] at hO3
    clear HO
    have HO := Lib.hid hO3
    clear hO3 hbb
    have c0 : w6.cell? ⟨G, 0, none⟩ = some (.int .i64 (2 : Int)) := HL6.out.cell 0
    have zc0 := HL6.out.frozen 0
    have c1 : w6.cell? ⟨G, 1, none⟩ = some (.int .i64 (fr : Int)) := HL6.out.cell 1
    have zc1 := HL6.out.frozen 1
    have c2 : w6.cell? ⟨G, 2, none⟩ = some (.int .i64 (tt : Int)) := HL6.out.cell 2
    have zc2 := HL6.out.frozen 2
    have c3 : w6.cell? ⟨G, 3, none⟩ = some (.int .i64 (tm : Int)) := HL6.out.cell 3
    have zc3 := HL6.out.frozen 3
    have c4 : w6.cell? ⟨G, 4, none⟩ = some (.int .i64 (0 : Int)) := HL6.out.cell 4
    have zc4 := HL6.out.frozen 4
    have c5 : w6.cell? ⟨G, 5, none⟩ = some (.int .i64 (0 : Int)) := HL6.out.cell 5
    have zc5 := HL6.out.frozen 5
    have c6 : w6.cell? ⟨G, 6, none⟩ = some (.int .i64 (0 : Int)) := HL6.out.cell 6
    have zc6 := HL6.out.frozen 6
    have c7 : w6.cell? ⟨G, 7, none⟩ = some (.int .i64 (0 : Int)) := HL6.out.cell 7
    have zc7 := HL6.out.frozen 7
    have c8 : w6.cell? ⟨G, 8, none⟩ = some (.bool false) := HL6.out.cell 8
    have zc8 := HL6.out.frozen 8
    have c9 : w6.cell? ⟨G, 9, none⟩ = some (.slice none 0 0) := HL6.out.cell 9
    have zc9 := HL6.out.frozen 9
    have c10 : w6.cell? ⟨G, 10, none⟩ = some (.int .i64 (0 : Int)) := HL6.out.cell 10
    have zc10 := HL6.out.frozen 10
    have c11 : w6.cell? ⟨G, 11, none⟩ = some (.int .i64 (0 : Int)) := HL6.out.cell 11
    have zc11 := HL6.out.frozen 11
    have c12 : w6.cell? ⟨G, 12, none⟩ = some (.slice none 0 0) := HL6.out.cell 12
    have zc12 := HL6.out.frozen 12
    have c13 : w6.cell? ⟨G, 13, none⟩ = some (.slice none 0 0) := HL6.out.cell 13
    have zc13 := HL6.out.frozen 13
    have d0 : w6.cell? ⟨w.heap.size, 0, none⟩ = some (.int .i64 (0 : Int)) := HB6.out.cell 0
    have zd0 := HB6.out.frozen 0
    have d1 : w6.cell? ⟨w.heap.size, 1, none⟩ = some (.int .i64 (0 : Int)) := HB6.out.cell 1
    have zd1 := HB6.out.frozen 1
    have d2 : w6.cell? ⟨w.heap.size, 2, none⟩ = some (.int .i64 (0 : Int)) := HB6.out.cell 2
    have zd2 := HB6.out.frozen 2
    have d3 : w6.cell? ⟨w.heap.size, 3, none⟩ = some (.int .i64 (0 : Int)) := HB6.out.cell 3
    have zd3 := HB6.out.frozen 3
    have d4 : w6.cell? ⟨w.heap.size, 4, none⟩ = some (.int .i64 (0 : Int)) := HB6.out.cell 4
    have zd4 := HB6.out.frozen 4
    have d5 : w6.cell? ⟨w.heap.size, 5, none⟩ = some (.int .i64 (0 : Int)) := HB6.out.cell 5
    have zd5 := HB6.out.frozen 5
    have d6 : w6.cell? ⟨w.heap.size, 6, none⟩ = some (.int .i64 (0 : Int)) := HB6.out.cell 6
    have zd6 := HB6.out.frozen 6
    have d7 : w6.cell? ⟨w.heap.size, 7, none⟩ = some (.int .i64 (0 : Int)) := HB6.out.cell 7
    have zd7 := HB6.out.frozen 7
    have d8 : w6.cell? ⟨w.heap.size, 8, none⟩ = some (.bool false) := HB6.out.cell 8
    have zd8 := HB6.out.frozen 8
    have d9 : w6.cell? ⟨w.heap.size, 9, none⟩ = some (.slice none 0 0) := HB6.out.cell 9
    have zd9 := HB6.out.frozen 9
    have d10 : w6.cell? ⟨w.heap.size, 10, none⟩ = some (.int .i64 (0 : Int)) := HB6.out.cell 10
    have zd10 := HB6.out.frozen 10
    have d11 : w6.cell? ⟨w.heap.size, 11, none⟩ = some (.int .i64 (0 : Int)) := HB6.out.cell 11
    have zd11 := HB6.out.frozen 11
    have d12 : w6.cell? ⟨w.heap.size, 12, none⟩ = some (.slice none 0 0) := HB6.out.cell 12
    have zd12 := HB6.out.frozen 12
    have d13 : w6.cell? ⟨w.heap.size, 13, none⟩ = some (.slice none 0 0) := HB6.out.cell 13
    have zd13 := HB6.out.frozen 13
    go_wp2_with (fail)
    have hM5 : Mod (fun b => b = G ∨ b = w.heap.size) w6 (((((((((((((((w6.setCell ⟨G, 8, none⟩ (.bool bb)).setCell ⟨w.heap.size, 0, none⟩ (.int .i64 (2 : Int))).setCell ⟨w.heap.size, 1, none⟩ (.int .i64 (fr : Int))).setCell ⟨w.heap.size, 2, none⟩ (.int .i64 (tt : Int))).setCell ⟨w.heap.size, 3, none⟩ (.int .i64 (tm : Int))).setCell ⟨w.heap.size, 4, none⟩ (.int .i64 (0 : Int))).setCell ⟨w.heap.size, 5, none⟩ (.int .i64 (0 : Int))).setCell ⟨w.heap.size, 6, none⟩ (.int .i64 (0 : Int))).setCell ⟨w.heap.size, 7, none⟩ (.int .i64 (0 : Int))).setCell ⟨w.heap.size, 8, none⟩ (.bool bb)).setCell ⟨w.heap.size, 9, none⟩ (.slice none 0 0)).setCell ⟨w.heap.size, 10, none⟩ (.int .i64 (0 : Int))).setCell ⟨w.heap.size, 11, none⟩ (.int .i64 (0 : Int))).setCell ⟨w.heap.size, 12, none⟩ (.slice none 0 0)).setCell ⟨w.heap.size, 13, none⟩ (.slice none 0 0)) := mod14 (Mod.setCell (S := fun b => b = G ∨ b = w.heap.size) (Mod.refl (fun b => b = G ∨ b = w.heap.size) w6) (p := ⟨G, 8, none⟩) (.inl (.inl rfl)) _) (.inl (.inr rfl)) _ _ _ _ _ _ _ _ _ _ _ _ _ _
    have hB : Blk (((((((((((((((w6.setCell ⟨G, 8, none⟩ (.bool bb)).setCell ⟨w.heap.size, 0, none⟩ (.int .i64 (2 : Int))).setCell ⟨w.heap.size, 1, none⟩ (.int .i64 (fr : Int))).setCell ⟨w.heap.size, 2, none⟩ (.int .i64 (tt : Int))).setCell ⟨w.heap.size, 3, none⟩ (.int .i64 (tm : Int))).setCell ⟨w.heap.size, 4, none⟩ (.int .i64 (0 : Int))).setCell ⟨w.heap.size, 5, none⟩ (.int .i64 (0 : Int))).setCell ⟨w.heap.size, 6, none⟩ (.int .i64 (0 : Int))).setCell ⟨w.heap.size, 7, none⟩ (.int .i64 (0 : Int))).setCell ⟨w.heap.size, 8, none⟩ (.bool bb)).setCell ⟨w.heap.size, 9, none⟩ (.slice none 0 0)).setCell ⟨w.heap.size, 10, none⟩ (.int .i64 (0 : Int))).setCell ⟨w.heap.size, 11, none⟩ (.int .i64 (0 : Int))).setCell ⟨w.heap.size, 12, none⟩ (.slice none 0 0)).setCell ⟨w.heap.size, 13, none⟩ (.slice none 0 0)) w.heap.size #[.int .i64 (2 : Int), .int .i64 (fr : Int), .int .i64 (tt : Int), .int .i64 (tm : Int), .int .i64 (0 : Int), .int .i64 (0 : Int), .int .i64 (0 : Int), .int .i64 (0 : Int), .bool bb, .slice none 0 0, .int .i64 (0 : Int), .int .i64 (0 : Int), .slice none 0 0, .slice none 0 0] 28 := set14 (HB6.out.far (p := ⟨G, 8, none⟩) (by have := HGW.out; show w.heap.size ≠ G; omega) _) rfl _ _ _ _ _ _ _ _ _ _ _ _ _ _
    have hM : Mod (· = r) w (((((((((((((((w6.setCell ⟨G, 8, none⟩ (.bool bb)).setCell ⟨w.heap.size, 0, none⟩ (.int .i64 (2 : Int))).setCell ⟨w.heap.size, 1, none⟩ (.int .i64 (fr : Int))).setCell ⟨w.heap.size, 2, none⟩ (.int .i64 (tt : Int))).setCell ⟨w.heap.size, 3, none⟩ (.int .i64 (tm : Int))).setCell ⟨w.heap.size, 4, none⟩ (.int .i64 (0 : Int))).setCell ⟨w.heap.size, 5, none⟩ (.int .i64 (0 : Int))).setCell ⟨w.heap.size, 6, none⟩ (.int .i64 (0 : Int))).setCell ⟨w.heap.size, 7, none⟩ (.int .i64 (0 : Int))).setCell ⟨w.heap.size, 8, none⟩ (.bool bb)).setCell ⟨w.heap.size, 9, none⟩ (.slice none 0 0)).setCell ⟨w.heap.size, 10, none⟩ (.int .i64 (0 : Int))).setCell ⟨w.heap.size, 11, none⟩ (.int .i64 (0 : Int))).setCell ⟨w.heap.size, 12, none⟩ (.slice none 0 0)).setCell ⟨w.heap.size, 13, none⟩ (.slice none 0 0)) := mod14 (Mod.setCell (S := (· = r)) HM6.out (p := ⟨G, 8, none⟩) (.inr (Nat.le_of_lt HGW.out)) _) (.inr (Nat.le_refl _)) _ _ _ _ _ _ _ _ _ _ _ _ _ _
    have hR : Rr B (((((((((((((((w6.setCell ⟨G, 8, none⟩ (.bool bb)).setCell ⟨w.heap.size, 0, none⟩ (.int .i64 (2 : Int))).setCell ⟨w.heap.size, 1, none⟩ (.int .i64 (fr : Int))).setCell ⟨w.heap.size, 2, none⟩ (.int .i64 (tt : Int))).setCell ⟨w.heap.size, 3, none⟩ (.int .i64 (tm : Int))).setCell ⟨w.heap.size, 4, none⟩ (.int .i64 (0 : Int))).setCell ⟨w.heap.size, 5, none⟩ (.int .i64 (0 : Int))).setCell ⟨w.heap.size, 6, none⟩ (.int .i64 (0 : Int))).setCell ⟨w.heap.size, 7, none⟩ (.int .i64 (0 : Int))).setCell ⟨w.heap.size, 8, none⟩ (.bool bb)).setCell ⟨w.heap.size, 9, none⟩ (.slice none 0 0)).setCell ⟨w.heap.size, 10, none⟩ (.int .i64 (0 : Int))).setCell ⟨w.heap.size, 11, none⟩ (.int .i64 (0 : Int))).setCell ⟨w.heap.size, 12, none⟩ (.slice none 0 0)).setCell ⟨w.heap.size, 13, none⟩ (.slice none 0 0)) r bv l k6 := HR6.out.keep hM5 (fun b hb => by have h1 := HBW.out; have h2 := HGW.out; rcases hb with rfl | rfl <;> omega)
    obtain ⟨W, hW⟩ : ∃ W, (((((((((((((((w6.setCell ⟨G, 8, none⟩ (.bool bb)).setCell ⟨w.heap.size, 0, none⟩ (.int .i64 (2 : Int))).setCell ⟨w.heap.size, 1, none⟩ (.int .i64 (fr : Int))).setCell ⟨w.heap.size, 2, none⟩ (.int .i64 (tt : Int))).setCell ⟨w.heap.size, 3, none⟩ (.int .i64 (tm : Int))).setCell ⟨w.heap.size, 4, none⟩ (.int .i64 (0 : Int))).setCell ⟨w.heap.size, 5, none⟩ (.int .i64 (0 : Int))).setCell ⟨w.heap.size, 6, none⟩ (.int .i64 (0 : Int))).setCell ⟨w.heap.size, 7, none⟩ (.int .i64 (0 : Int))).setCell ⟨w.heap.size, 8, none⟩ (.bool bb)).setCell ⟨w.heap.size, 9, none⟩ (.slice none 0 0)).setCell ⟨w.heap.size, 10, none⟩ (.int .i64 (0 : Int))).setCell ⟨w.heap.size, 11, none⟩ (.int .i64 (0 : Int))).setCell ⟨w.heap.size, 12, none⟩ (.slice none 0 0)).setCell ⟨w.heap.size, 13, none⟩ (.slice none 0 0)) = W := ⟨_, rfl⟩
    rw [hW] at hB hM hR hM5
    clear c0 zc0 d0 zd0 c1 zc1 d1 zd1 c2 zc2 d2 zd2 c3 zc3 d3 zd3 c4 zc4 d4 zd4 c5 zc5 d5 zd5 c6 zc6 d6 zd6 c7 zc7 d7 zd7 c8 zc8 d8 zd8 c9 zc9 d9 zd9 c10 zc10 d10 zd10 c11 zc11 d11 zd11 c12 zc12 d12 zd12 c13 zc13 d13 zd13
    simp only [hW]
    have c0 : W.cell? ⟨w.heap.size, 0, none⟩ = some (.int .i64 (2 : Int)) := hB.cell 0
    have c1 : W.cell? ⟨w.heap.size, 1, none⟩ = some (.int .i64 (fr : Int)) := hB.cell 1
    have c2 : W.cell? ⟨w.heap.size, 2, none⟩ = some (.int .i64 (tt : Int)) := hB.cell 2
    have c3 : W.cell? ⟨w.heap.size, 3, none⟩ = some (.int .i64 (tm : Int)) := hB.cell 3
    have c4 : W.cell? ⟨w.heap.size, 4, none⟩ = some (.int .i64 (0 : Int)) := hB.cell 4
    have c5 : W.cell? ⟨w.heap.size, 5, none⟩ = some (.int .i64 (0 : Int)) := hB.cell 5
    have c6 : W.cell? ⟨w.heap.size, 6, none⟩ = some (.int .i64 (0 : Int)) := hB.cell 6
    have c7 : W.cell? ⟨w.heap.size, 7, none⟩ = some (.int .i64 (0 : Int)) := hB.cell 7
    have c8 : W.cell? ⟨w.heap.size, 8, none⟩ = some (.bool bb) := hB.cell 8
    have c9 : W.cell? ⟨w.heap.size, 9, none⟩ = some (.slice none 0 0) := hB.cell 9
    have c10 : W.cell? ⟨w.heap.size, 10, none⟩ = some (.int .i64 (0 : Int)) := hB.cell 10
    have c11 : W.cell? ⟨w.heap.size, 11, none⟩ = some (.int .i64 (0 : Int)) := hB.cell 11
    have c12 : W.cell? ⟨w.heap.size, 12, none⟩ = some (.slice none 0 0) := hB.cell 12
    have c13 : W.cell? ⟨w.heap.size, 13, none⟩ = some (.slice none 0 0) := hB.cell 13
    refine ⟨rfl, .agg #[.int .i64 (2 : Int), .int .i64 (fr : Int), .int .i64 (tt : Int), .int .i64 (tm : Int), .int .i64 (0 : Int), .int .i64 (0 : Int), .int .i64 (0 : Int), .int .i64 (0 : Int), .bool bb, .slice none 0 0, .int .i64 (0 : Int), .int .i64 (0 : Int), .slice none 0 0, .slice none 0 0], ?_, ?_⟩
    · simp [results, Tryd.results38, go_sem, c0, c1, c2, c3, c4, c5, c6, c7, c8, c9, c10, c11, c12, c13]
    · rw [HO.out]
      exact ⟨_, rfl, hR, hM, ⟨.slice none 0 0, .slice none 0 0, .slice none 0 0, rfl, fun _ _ _ _ => ⟨.inl ⟨rfl, rfl⟩, .inl ⟨rfl, rfl⟩, .inl ⟨rfl, rfl⟩, none, 0, rfl, Nat.le_refl _, Nat.zero_le _⟩⟩⟩
set_option maxRecDepth 100000 in
set_option maxHeartbeats 3200000 in
theorem letter_4 (B : Nat) (r : Nat) (bv : Value) (l : Bs) (fr tt tm k1 k2 k3 k4 : Nat) (w : World) (h : Rr B w r bv l 0) (hn1 : nb l 0 5 = .ok (4, k1)) (hn2 : nb l k1 5 = .ok (fr, k2)) (hn3 : nb l k2 5 = .ok (tt, k3)) (hn4 : nb l k3 999999 = .ok (tm, k4)) :
    Calls Tryd.prog 38 #[.pointer (some ⟨r, 0, none⟩)] w (Reads (IsL w) B r bv l w (letterR l)) := by
  have hO1 : letterR l = restR l 4 fr tt tm k4 := by unfold letterR; simp only [hn1, hn2, hn3, hn4, thn]
  obtain ⟨O, hO⟩ : ∃ O, letterR l = O := ⟨_, rfl⟩
  rw [hO]
  rw [hO] at hO1
  have HO := Lib.hid hO1
  have hwm : Mod (· = r) w (w.alloc (Obj.cells #[Value.int IntKind.i64 0, Value.int IntKind.i64 0, Value.int IntKind.i64 0, Value.int IntKind.i64 0, Value.int IntKind.i64 0, Value.int IntKind.i64 0, Value.int IntKind.i64 0, Value.int IntKind.i64 0, Value.bool false, Value.slice none 0 0, Value.int IntKind.i64 0, Value.int IntKind.i64 0, Value.slice none 0 0, Value.slice none 0 0] 28)) := (Mod.refl _ w).alloc _
  have hres := Blk.new w #[Value.int IntKind.i64 0, Value.int IntKind.i64 0, Value.int IntKind.i64 0, Value.int IntKind.i64 0, Value.int IntKind.i64 0, Value.int IntKind.i64 0, Value.int IntKind.i64 0, Value.int IntKind.i64 0, Value.bool false, Value.slice none 0 0, Value.int IntKind.i64 0, Value.int IntKind.i64 0, Value.slice none 0 0, Value.slice none 0 0] 28
  have hr0 := h.of_alloc (Obj.cells #[Value.int IntKind.i64 0, Value.int IntKind.i64 0, Value.int IntKind.i64 0, Value.int IntKind.i64 0, Value.int IntKind.i64 0, Value.int IntKind.i64 0, Value.int IntKind.i64 0, Value.int IntKind.i64 0, Value.bool false, Value.slice none 0 0, Value.int IntKind.i64 0, Value.int IntKind.i64 0, Value.slice none 0 0, Value.slice none 0 0] 28)
  have hrw : r < w.heap.size := h.1.lt
  have HRW := Lib.hid hrw
  have HBW := Lib.hid h.2.2.2.2.2.2
  obtain ⟨w0, hw0⟩ : ∃ w0, w.alloc (Obj.cells #[Value.int IntKind.i64 0, Value.int IntKind.i64 0, Value.int IntKind.i64 0, Value.int IntKind.i64 0, Value.int IntKind.i64 0, Value.int IntKind.i64 0, Value.int IntKind.i64 0, Value.int IntKind.i64 0, Value.bool false, Value.slice none 0 0, Value.int IntKind.i64 0, Value.int IntKind.i64 0, Value.slice none 0 0, Value.slice none 0 0] 28) = w0 := ⟨_, rfl⟩
  rw [hw0] at hwm hres hr0
  have hx1 := number_any B r bv l 0 5 (by omega) w0 hr0
  rw [hn1] at hx1
  have HM0 := Lib.hid hwm
  have HB0 := Lib.hid hres
  clear h hO hO1 hwm hres hr0 hrw
  go_enter Tryd.func38, Tryd.ntmps38
  go_wp2_with (fail)
  clear hw0
  refine hx1.mono ?_
  rintro e w1 ⟨rfl, hr1, hm1⟩
  have HM1 := Lib.hid (md_r HM0.out hm1)
  have HB1 := Lib.hid (HB0.out.mod hm1 (by have := HRW.out; omega))
  have hx2 := number_any B r bv l k1 5 (by omega) w1 hr1
  rw [hn2] at hx2
  clear hx1 hr1 hm1 HM0 HB0
  go_wp2_with (fail)
  refine hx2.mono ?_
  rintro e w2 ⟨rfl, hr2, hm2⟩
  have HM2 := Lib.hid (md_r HM1.out hm2)
  have HB2 := Lib.hid (HB1.out.mod hm2 (by have := HRW.out; omega))
  have hx3 := number_any B r bv l k2 5 (by omega) w2 hr2
  rw [hn3] at hx3
  clear hx2 hr2 hm2 HM1 HB1
  go_wp2_with (fail)
  refine hx3.mono ?_
  rintro e w3 ⟨rfl, hr3, hm3⟩
  have HM3 := Lib.hid (md_r HM2.out hm3)
  have HB3 := Lib.hid (HB2.out.mod hm3 (by have := HRW.out; omega))
  have hx4 := number_any B r bv l k3 999999 (by omega) w3 hr3
  rw [hn4] at hx4
  clear hx3 hr3 hm3 HM2 HB2
  go_wp2_with (fail)
  refine hx4.mono ?_
  rintro e w4 ⟨rfl, hr4, hm4⟩
  have HM4 := Lib.hid (md_r HM3.out hm4)
  have HB4 := Lib.hid (HB3.out.mod hm4 (by have := HRW.out; omega))
  have HR4 := Lib.hid hr4
  clear hx4 hr4 hm4 HM3 HB3 hn1 hn2 hn3 hn4
  go_wp2_with (fail)
  have hO1 := HO.out
  unfold restR at hO1
  rw [if_neg (by decide), if_neg (by decide), if_neg (by decide), if_pos rfl] at hO1
  clear HO
  have HO := Lib.hid hO1
  clear hO1
  have hG0 := Blk.new w4 #[.int .i64 (4 : Int), .int .i64 (fr : Int), .int .i64 (tt : Int), .int .i64 (tm : Int), .int .i64 (0 : Int), .int .i64 (0 : Int), .int .i64 (0 : Int), .int .i64 (0 : Int), .bool false, .slice none 0 0, .int .i64 (0 : Int), .int .i64 (0 : Int), .slice none 0 0, .slice none 0 0] 28
  obtain ⟨G, hG⟩ : ∃ G, w4.heap.size = G := ⟨_, rfl⟩
  rw [hG] at hG0
  have hGr : r < G := by have := HRW.out; have := HM4.out.size; omega
  have hGw : w.heap.size < G := by rw [← hG]; exact HB4.out.lt
  have HGR := Lib.hid hGr
  have hne : ¬ w.heap.size = G := by omega
  have hne' : ¬ G = w.heap.size := by omega
  have hM5 := HM4.out.alloc (.cells #[.int .i64 (4 : Int), .int .i64 (fr : Int), .int .i64 (tt : Int), .int .i64 (tm : Int), .int .i64 (0 : Int), .int .i64 (0 : Int), .int .i64 (0 : Int), .int .i64 (0 : Int), .bool false, .slice none 0 0, .int .i64 (0 : Int), .int .i64 (0 : Int), .slice none 0 0, .slice none 0 0] 28)
  have hB5 := HB4.out.alloc (.cells #[.int .i64 (4 : Int), .int .i64 (fr : Int), .int .i64 (tt : Int), .int .i64 (tm : Int), .int .i64 (0 : Int), .int .i64 (0 : Int), .int .i64 (0 : Int), .int .i64 (0 : Int), .bool false, .slice none 0 0, .int .i64 (0 : Int), .int .i64 (0 : Int), .slice none 0 0, .slice none 0 0] 28)
  have hR5 := HR4.out.of_alloc (.cells #[.int .i64 (4 : Int), .int .i64 (fr : Int), .int .i64 (tt : Int), .int .i64 (tm : Int), .int .i64 (0 : Int), .int .i64 (0 : Int), .int .i64 (0 : Int), .int .i64 (0 : Int), .bool false, .slice none 0 0, .int .i64 (0 : Int), .int .i64 (0 : Int), .slice none 0 0, .slice none 0 0] 28)
  obtain ⟨w5, hw5⟩ : ∃ w5, w4.alloc (.cells #[.int .i64 (4 : Int), .int .i64 (fr : Int), .int .i64 (tt : Int), .int .i64 (tm : Int), .int .i64 (0 : Int), .int .i64 (0 : Int), .int .i64 (0 : Int), .int .i64 (0 : Int), .bool false, .slice none 0 0, .int .i64 (0 : Int), .int .i64 (0 : Int), .slice none 0 0, .slice none 0 0] 28) = w5 := ⟨_, rfl⟩
  rw [hw5] at hG0 hM5 hB5 hR5
  have HM5 := Lib.hid hM5
  have HB5 := Lib.hid hB5
  have HR5 := Lib.hid hR5
  have HL5 := Lib.hid hG0
  have HGW := Lib.hid hGw
  clear hM5 hB5 hR5 hG0 HM4 HB4 HR4 hGr hGw
  simp only [hG, hw5]
  clear hw5
  have hx := number_any B r bv l k4 1 (by omega) w5 HR5.out
  refine hx.mono ?_
  intro e w6 hR
  cases hnb : nb l k4 1 with
  | error p =>
    rw [hnb] at hR
    obtain ⟨rfl, hm⟩ := hR
    have hO2 := HO.out
    rw [hnb, thn_err] at hO2
    have HE := Lib.hid hO2
    have HM6 := Lib.hid (md_r HM5.out hm)
    clear hx hnb hO2 hm HO HM5 HB5 HR5 HL5
    go_wp2_with (fail)
    refine ⟨rfl, ?_⟩
    rw [HE.out]
    exact ⟨rfl, HM6.out⟩
  | ok x =>
    obtain ⟨b, k6⟩ := x
    rw [hnb] at hR
    obtain ⟨rfl, hr, hm⟩ := hR
    have hO2 := HO.out
    rw [hnb] at hO2
    simp only [thn_ok] at hO2
    have hleb := (nb_le HR5.out.2.2.2.1 hnb).1
    clear HO
    have HO := Lib.hid hO2
    have HM6 := Lib.hid (md_r HM5.out hm)
    have HB6 := Lib.hid (HB5.out.mod hm (by have := HRW.out; omega))
    have HL6 := Lib.hid (HL5.out.mod hm (by have := HGR.out; omega))
    have HR6 := Lib.hid hr
    skip
    clear hx hnb hO2 hm hr HM5 HB5 HR5 HL5
    obtain ⟨bb, hbb⟩ : ∃ x : Bool, (b == 1) = x := ⟨_, rfl⟩
    have hb1 : ((b : Int) == 1) = bb := by rw [← hbb, Bool.eq_iff_iff]; simp; try omega
    have hO3 := HO.out
    simp only [hbb] at hO3
    clear HO
    have HO := Lib.hid hO3
    clear hO3 hbb
    go_wp2_with (fail)
    have hx := number_any B r bv l k6 999999 (by omega) w6 HR6.out
    refine hx.mono ?_
    intro e w7 hR
    cases hnb : nb l k6 999999 with
    | error p =>
      rw [hnb] at hR
      obtain ⟨rfl, hm⟩ := hR
      have hO2 := HO.out
      rw [hnb, thn_err] at hO2
      have HE := Lib.hid hO2
      have HM7 := Lib.hid (md_r HM6.out hm)
      clear hx hnb hO2 hm HO HM6 HB6 HR6 HL6
      go_wp2_with (fail)
      refine ⟨rfl, ?_⟩
      rw [HE.out]
      exact ⟨rfl, HM7.out⟩
    | ok x =>
      obtain ⟨ix, k7⟩ := x
      rw [hnb] at hR
      obtain ⟨rfl, hr, hm⟩ := hR
      have hO2 := HO.out
      rw [hnb] at hO2
      simp only [thn_ok] at hO2
      have hleix := (nb_le HR6.out.2.2.2.1 hnb).1
      clear HO
      have HO := Lib.hid hO2
      have HM7 := Lib.hid (md_r HM6.out hm)
      have HB7 := Lib.hid (HB6.out.mod hm (by have := HRW.out; omega))
      have HL7 := Lib.hid (HL6.out.mod hm (by have := HGR.out; omega))
      have HR7 := Lib.hid hr
      skip
      clear hx hnb hO2 hm hr HM6 HB6 HR6 HL6
      go_wp2_with (fail)
      have hx := number_any B r bv l k7 1073741824 (by omega) w7 HR7.out
      refine hx.mono ?_
      intro e w8 hR
      cases hnb : nb l k7 1073741824 with
      | error p =>
        rw [hnb] at hR
        obtain ⟨rfl, hm⟩ := hR
        have hO2 := HO.out
        rw [hnb, thn_err] at hO2
        have HE := Lib.hid hO2
        have HM8 := Lib.hid (md_r HM7.out hm)
        clear hx hnb hO2 hm HO HM7 HB7 HR7 HL7
        go_wp2_with (fail)
        refine ⟨rfl, ?_⟩
        rw [HE.out]
        exact ⟨rfl, HM8.out⟩
      | ok x =>
        obtain ⟨rd, k8⟩ := x
        rw [hnb] at hR
        obtain ⟨rfl, hr, hm⟩ := hR
        have hO2 := HO.out
        rw [hnb] at hO2
        simp only [thn_ok] at hO2
        have hlerd := (nb_le HR7.out.2.2.2.1 hnb).1
        clear HO
        have HO := Lib.hid hO2
        have HM8 := Lib.hid (md_r HM7.out hm)
        have HB8 := Lib.hid (HB7.out.mod hm (by have := HRW.out; omega))
        have HL8 := Lib.hid (HL7.out.mod hm (by have := HGR.out; omega))
        have HR8 := Lib.hid hr
        skip
        clear hx hnb hO2 hm hr HM7 HB7 HR7 HL7
        have c0 : w8.cell? ⟨G, 0, none⟩ = some (.int .i64 (4 : Int)) := HL8.out.cell 0
        have zc0 := HL8.out.frozen 0
        have c1 : w8.cell? ⟨G, 1, none⟩ = some (.int .i64 (fr : Int)) := HL8.out.cell 1
        have zc1 := HL8.out.frozen 1
        have c2 : w8.cell? ⟨G, 2, none⟩ = some (.int .i64 (tt : Int)) := HL8.out.cell 2
        have zc2 := HL8.out.frozen 2
        have c3 : w8.cell? ⟨G, 3, none⟩ = some (.int .i64 (tm : Int)) := HL8.out.cell 3
        have zc3 := HL8.out.frozen 3
        have c4 : w8.cell? ⟨G, 4, none⟩ = some (.int .i64 (0 : Int)) := HL8.out.cell 4
        have zc4 := HL8.out.frozen 4
        have c5 : w8.cell? ⟨G, 5, none⟩ = some (.int .i64 (0 : Int)) := HL8.out.cell 5
        have zc5 := HL8.out.frozen 5
        have c6 : w8.cell? ⟨G, 6, none⟩ = some (.int .i64 (0 : Int)) := HL8.out.cell 6
        have zc6 := HL8.out.frozen 6
        have c7 : w8.cell? ⟨G, 7, none⟩ = some (.int .i64 (0 : Int)) := HL8.out.cell 7
        have zc7 := HL8.out.frozen 7
        have c8 : w8.cell? ⟨G, 8, none⟩ = some (.bool false) := HL8.out.cell 8
        have zc8 := HL8.out.frozen 8
        have c9 : w8.cell? ⟨G, 9, none⟩ = some (.slice none 0 0) := HL8.out.cell 9
        have zc9 := HL8.out.frozen 9
        have c10 : w8.cell? ⟨G, 10, none⟩ = some (.int .i64 (0 : Int)) := HL8.out.cell 10
        have zc10 := HL8.out.frozen 10
        have c11 : w8.cell? ⟨G, 11, none⟩ = some (.int .i64 (0 : Int)) := HL8.out.cell 11
        have zc11 := HL8.out.frozen 11
        have c12 : w8.cell? ⟨G, 12, none⟩ = some (.slice none 0 0) := HL8.out.cell 12
        have zc12 := HL8.out.frozen 12
        have c13 : w8.cell? ⟨G, 13, none⟩ = some (.slice none 0 0) := HL8.out.cell 13
        have zc13 := HL8.out.frozen 13
        have d0 : w8.cell? ⟨w.heap.size, 0, none⟩ = some (.int .i64 (0 : Int)) := HB8.out.cell 0
        have zd0 := HB8.out.frozen 0
        have d1 : w8.cell? ⟨w.heap.size, 1, none⟩ = some (.int .i64 (0 : Int)) := HB8.out.cell 1
        have zd1 := HB8.out.frozen 1
        have d2 : w8.cell? ⟨w.heap.size, 2, none⟩ = some (.int .i64 (0 : Int)) := HB8.out.cell 2
        have zd2 := HB8.out.frozen 2
        have d3 : w8.cell? ⟨w.heap.size, 3, none⟩ = some (.int .i64 (0 : Int)) := HB8.out.cell 3
        have zd3 := HB8.out.frozen 3
        have d4 : w8.cell? ⟨w.heap.size, 4, none⟩ = some (.int .i64 (0 : Int)) := HB8.out.cell 4
        have zd4 := HB8.out.frozen 4
        have d5 : w8.cell? ⟨w.heap.size, 5, none⟩ = some (.int .i64 (0 : Int)) := HB8.out.cell 5
        have zd5 := HB8.out.frozen 5
        have d6 : w8.cell? ⟨w.heap.size, 6, none⟩ = some (.int .i64 (0 : Int)) := HB8.out.cell 6
        have zd6 := HB8.out.frozen 6
        have d7 : w8.cell? ⟨w.heap.size, 7, none⟩ = some (.int .i64 (0 : Int)) := HB8.out.cell 7
        have zd7 := HB8.out.frozen 7
        have d8 : w8.cell? ⟨w.heap.size, 8, none⟩ = some (.bool false) := HB8.out.cell 8
        have zd8 := HB8.out.frozen 8
        have d9 : w8.cell? ⟨w.heap.size, 9, none⟩ = some (.slice none 0 0) := HB8.out.cell 9
        have zd9 := HB8.out.frozen 9
        have d10 : w8.cell? ⟨w.heap.size, 10, none⟩ = some (.int .i64 (0 : Int)) := HB8.out.cell 10
        have zd10 := HB8.out.frozen 10
        have d11 : w8.cell? ⟨w.heap.size, 11, none⟩ = some (.int .i64 (0 : Int)) := HB8.out.cell 11
        have zd11 := HB8.out.frozen 11
        have d12 : w8.cell? ⟨w.heap.size, 12, none⟩ = some (.slice none 0 0) := HB8.out.cell 12
        have zd12 := HB8.out.frozen 12
        have d13 : w8.cell? ⟨w.heap.size, 13, none⟩ = some (.slice none 0 0) := HB8.out.cell 13
        have zd13 := HB8.out.frozen 13
        go_wp2_with (fail)
        have hM5 : Mod (fun b => b = G ∨ b = w.heap.size) w8 (((((((((((((((((w8.setCell ⟨G, 8, none⟩ (.bool bb)).setCell ⟨G, 4, none⟩ (.int .i64 (ix : Int))).setCell ⟨G, 7, none⟩ (.int .i64 (rd : Int))).setCell ⟨w.heap.size, 0, none⟩ (.int .i64 (4 : Int))).setCell ⟨w.heap.size, 1, none⟩ (.int .i64 (fr : Int))).setCell ⟨w.heap.size, 2, none⟩ (.int .i64 (tt : Int))).setCell ⟨w.heap.size, 3, none⟩ (.int .i64 (tm : Int))).setCell ⟨w.heap.size, 4, none⟩ (.int .i64 (ix : Int))).setCell ⟨w.heap.size, 5, none⟩ (.int .i64 (0 : Int))).setCell ⟨w.heap.size, 6, none⟩ (.int .i64 (0 : Int))).setCell ⟨w.heap.size, 7, none⟩ (.int .i64 (rd : Int))).setCell ⟨w.heap.size, 8, none⟩ (.bool bb)).setCell ⟨w.heap.size, 9, none⟩ (.slice none 0 0)).setCell ⟨w.heap.size, 10, none⟩ (.int .i64 (0 : Int))).setCell ⟨w.heap.size, 11, none⟩ (.int .i64 (0 : Int))).setCell ⟨w.heap.size, 12, none⟩ (.slice none 0 0)).setCell ⟨w.heap.size, 13, none⟩ (.slice none 0 0)) := mod14 (Mod.setCell (S := fun b => b = G ∨ b = w.heap.size) (Mod.setCell (S := fun b => b = G ∨ b = w.heap.size) (Mod.setCell (S := fun b => b = G ∨ b = w.heap.size) (Mod.refl (fun b => b = G ∨ b = w.heap.size) w8) (p := ⟨G, 8, none⟩) (.inl (.inl rfl)) _) (p := ⟨G, 4, none⟩) (.inl (.inl rfl)) _) (p := ⟨G, 7, none⟩) (.inl (.inl rfl)) _) (.inl (.inr rfl)) _ _ _ _ _ _ _ _ _ _ _ _ _ _
        have hB : Blk (((((((((((((((((w8.setCell ⟨G, 8, none⟩ (.bool bb)).setCell ⟨G, 4, none⟩ (.int .i64 (ix : Int))).setCell ⟨G, 7, none⟩ (.int .i64 (rd : Int))).setCell ⟨w.heap.size, 0, none⟩ (.int .i64 (4 : Int))).setCell ⟨w.heap.size, 1, none⟩ (.int .i64 (fr : Int))).setCell ⟨w.heap.size, 2, none⟩ (.int .i64 (tt : Int))).setCell ⟨w.heap.size, 3, none⟩ (.int .i64 (tm : Int))).setCell ⟨w.heap.size, 4, none⟩ (.int .i64 (ix : Int))).setCell ⟨w.heap.size, 5, none⟩ (.int .i64 (0 : Int))).setCell ⟨w.heap.size, 6, none⟩ (.int .i64 (0 : Int))).setCell ⟨w.heap.size, 7, none⟩ (.int .i64 (rd : Int))).setCell ⟨w.heap.size, 8, none⟩ (.bool bb)).setCell ⟨w.heap.size, 9, none⟩ (.slice none 0 0)).setCell ⟨w.heap.size, 10, none⟩ (.int .i64 (0 : Int))).setCell ⟨w.heap.size, 11, none⟩ (.int .i64 (0 : Int))).setCell ⟨w.heap.size, 12, none⟩ (.slice none 0 0)).setCell ⟨w.heap.size, 13, none⟩ (.slice none 0 0)) w.heap.size #[.int .i64 (4 : Int), .int .i64 (fr : Int), .int .i64 (tt : Int), .int .i64 (tm : Int), .int .i64 (ix : Int), .int .i64 (0 : Int), .int .i64 (0 : Int), .int .i64 (rd : Int), .bool bb, .slice none 0 0, .int .i64 (0 : Int), .int .i64 (0 : Int), .slice none 0 0, .slice none 0 0] 28 := set14 (((HB8.out.far (p := ⟨G, 8, none⟩) (by have := HGW.out; show w.heap.size ≠ G; omega) _).far (p := ⟨G, 4, none⟩) (by have := HGW.out; show w.heap.size ≠ G; omega) _).far (p := ⟨G, 7, none⟩) (by have := HGW.out; show w.heap.size ≠ G; omega) _) rfl _ _ _ _ _ _ _ _ _ _ _ _ _ _
        have hM : Mod (· = r) w (((((((((((((((((w8.setCell ⟨G, 8, none⟩ (.bool bb)).setCell ⟨G, 4, none⟩ (.int .i64 (ix : Int))).setCell ⟨G, 7, none⟩ (.int .i64 (rd : Int))).setCell ⟨w.heap.size, 0, none⟩ (.int .i64 (4 : Int))).setCell ⟨w.heap.size, 1, none⟩ (.int .i64 (fr : Int))).setCell ⟨w.heap.size, 2, none⟩ (.int .i64 (tt : Int))).setCell ⟨w.heap.size, 3, none⟩ (.int .i64 (tm : Int))).setCell ⟨w.heap.size, 4, none⟩ (.int .i64 (ix : Int))).setCell ⟨w.heap.size, 5, none⟩ (.int .i64 (0 : Int))).setCell ⟨w.heap.size, 6, none⟩ (.int .i64 (0 : Int))).setCell ⟨w.heap.size, 7, none⟩ (.int .i64 (rd : Int))).setCell ⟨w.heap.size, 8, none⟩ (.bool bb)).setCell ⟨w.heap.size, 9, none⟩ (.slice none 0 0)).setCell ⟨w.heap.size, 10, none⟩ (.int .i64 (0 : Int))).setCell ⟨w.heap.size, 11, none⟩ (.int .i64 (0 : Int))).setCell ⟨w.heap.size, 12, none⟩ (.slice none 0 0)).setCell ⟨w.heap.size, 13, none⟩ (.slice none 0 0)) := mod14 (Mod.setCell (S := (· = r)) (Mod.setCell (S := (· = r)) (Mod.setCell (S := (· = r)) HM8.out (p := ⟨G, 8, none⟩) (.inr (Nat.le_of_lt HGW.out)) _) (p := ⟨G, 4, none⟩) (.inr (Nat.le_of_lt HGW.out)) _) (p := ⟨G, 7, none⟩) (.inr (Nat.le_of_lt HGW.out)) _) (.inr (Nat.le_refl _)) _ _ _ _ _ _ _ _ _ _ _ _ _ _
        have hR : Rr B (((((((((((((((((w8.setCell ⟨G, 8, none⟩ (.bool bb)).setCell ⟨G, 4, none⟩ (.int .i64 (ix : Int))).setCell ⟨G, 7, none⟩ (.int .i64 (rd : Int))).setCell ⟨w.heap.size, 0, none⟩ (.int .i64 (4 : Int))).setCell ⟨w.heap.size, 1, none⟩ (.int .i64 (fr : Int))).setCell ⟨w.heap.size, 2, none⟩ (.int .i64 (tt : Int))).setCell ⟨w.heap.size, 3, none⟩ (.int .i64 (tm : Int))).setCell ⟨w.heap.size, 4, none⟩ (.int .i64 (ix : Int))).setCell ⟨w.heap.size, 5, none⟩ (.int .i64 (0 : Int))).setCell ⟨w.heap.size, 6, none⟩ (.int .i64 (0 : Int))).setCell ⟨w.heap.size, 7, none⟩ (.int .i64 (rd : Int))).setCell ⟨w.heap.size, 8, none⟩ (.bool bb)).setCell ⟨w.heap.size, 9, none⟩ (.slice none 0 0)).setCell ⟨w.heap.size, 10, none⟩ (.int .i64 (0 : Int))).setCell ⟨w.heap.size, 11, none⟩ (.int .i64 (0 : Int))).setCell ⟨w.heap.size, 12, none⟩ (.slice none 0 0)).setCell ⟨w.heap.size, 13, none⟩ (.slice none 0 0)) r bv l k8 := HR8.out.keep hM5 (fun b hb => by have h1 := HBW.out; have h2 := HGW.out; rcases hb with rfl | rfl <;> omega)
        obtain ⟨W, hW⟩ : ∃ W, (((((((((((((((((w8.setCell ⟨G, 8, none⟩ (.bool bb)).setCell ⟨G, 4, none⟩ (.int .i64 (ix : Int))).setCell ⟨G, 7, none⟩ (.int .i64 (rd : Int))).setCell ⟨w.heap.size, 0, none⟩ (.int .i64 (4 : Int))).setCell ⟨w.heap.size, 1, none⟩ (.int .i64 (fr : Int))).setCell ⟨w.heap.size, 2, none⟩ (.int .i64 (tt : Int))).setCell ⟨w.heap.size, 3, none⟩ (.int .i64 (tm : Int))).setCell ⟨w.heap.size, 4, none⟩ (.int .i64 (ix : Int))).setCell ⟨w.heap.size, 5, none⟩ (.int .i64 (0 : Int))).setCell ⟨w.heap.size, 6, none⟩ (.int .i64 (0 : Int))).setCell ⟨w.heap.size, 7, none⟩ (.int .i64 (rd : Int))).setCell ⟨w.heap.size, 8, none⟩ (.bool bb)).setCell ⟨w.heap.size, 9, none⟩ (.slice none 0 0)).setCell ⟨w.heap.size, 10, none⟩ (.int .i64 (0 : Int))).setCell ⟨w.heap.size, 11, none⟩ (.int .i64 (0 : Int))).setCell ⟨w.heap.size, 12, none⟩ (.slice none 0 0)).setCell ⟨w.heap.size, 13, none⟩ (.slice none 0 0)) = W := ⟨_, rfl⟩
        rw [hW] at hB hM hR hM5
        clear c0 zc0 d0 zd0 c1 zc1 d1 zd1 c2 zc2 d2 zd2 c3 zc3 d3 zd3 c4 zc4 d4 zd4 c5 zc5 d5 zd5 c6 zc6 d6 zd6 c7 zc7 d7 zd7 c8 zc8 d8 zd8 c9 zc9 d9 zd9 c10 zc10 d10 zd10 c11 zc11 d11 zd11 c12 zc12 d12 zd12 c13 zc13 d13 zd13
        simp only [hW]
        have c0 : W.cell? ⟨w.heap.size, 0, none⟩ = some (.int .i64 (4 : Int)) := hB.cell 0
        have c1 : W.cell? ⟨w.heap.size, 1, none⟩ = some (.int .i64 (fr : Int)) := hB.cell 1
        have c2 : W.cell? ⟨w.heap.size, 2, none⟩ = some (.int .i64 (tt : Int)) := hB.cell 2
        have c3 : W.cell? ⟨w.heap.size, 3, none⟩ = some (.int .i64 (tm : Int)) := hB.cell 3
        have c4 : W.cell? ⟨w.heap.size, 4, none⟩ = some (.int .i64 (ix : Int)) := hB.cell 4
        have c5 : W.cell? ⟨w.heap.size, 5, none⟩ = some (.int .i64 (0 : Int)) := hB.cell 5
        have c6 : W.cell? ⟨w.heap.size, 6, none⟩ = some (.int .i64 (0 : Int)) := hB.cell 6
        have c7 : W.cell? ⟨w.heap.size, 7, none⟩ = some (.int .i64 (rd : Int)) := hB.cell 7
        have c8 : W.cell? ⟨w.heap.size, 8, none⟩ = some (.bool bb) := hB.cell 8
        have c9 : W.cell? ⟨w.heap.size, 9, none⟩ = some (.slice none 0 0) := hB.cell 9
        have c10 : W.cell? ⟨w.heap.size, 10, none⟩ = some (.int .i64 (0 : Int)) := hB.cell 10
        have c11 : W.cell? ⟨w.heap.size, 11, none⟩ = some (.int .i64 (0 : Int)) := hB.cell 11
        have c12 : W.cell? ⟨w.heap.size, 12, none⟩ = some (.slice none 0 0) := hB.cell 12
        have c13 : W.cell? ⟨w.heap.size, 13, none⟩ = some (.slice none 0 0) := hB.cell 13
        refine ⟨rfl, .agg #[.int .i64 (4 : Int), .int .i64 (fr : Int), .int .i64 (tt : Int), .int .i64 (tm : Int), .int .i64 (ix : Int), .int .i64 (0 : Int), .int .i64 (0 : Int), .int .i64 (rd : Int), .bool bb, .slice none 0 0, .int .i64 (0 : Int), .int .i64 (0 : Int), .slice none 0 0, .slice none 0 0], ?_, ?_⟩
        · simp [results, Tryd.results38, go_sem, c0, c1, c2, c3, c4, c5, c6, c7, c8, c9, c10, c11, c12, c13]
        · rw [HO.out]
          exact ⟨_, rfl, hR, hM, ⟨.slice none 0 0, .slice none 0 0, .slice none 0 0, rfl, fun _ _ _ _ => ⟨.inl ⟨rfl, rfl⟩, .inl ⟨rfl, rfl⟩, .inl ⟨rfl, rfl⟩, none, 0, rfl, Nat.le_refl _, Nat.zero_le _⟩⟩⟩
end Go.Proofs.YtknaaaphdjdaoaaDoor
end
section
namespace Go.Proofs.YtknaaaphdjdaoaaDoor
open Go.RowKit Mem
set_option linter.unusedVariables false
set_option linter.unusedSimpArgs false

set_option maxRecDepth 100000 in
set_option maxHeartbeats 3200000 in
theorem letter_e1 (B : Nat) (r : Nat) (bv : Value) (l : Bs) (p : Nat) (w : World) (h : Rr B w r bv l 0)  (hn1 : nb l 0 5 = .error p) :
    Calls Tryd.prog 38 #[.pointer (some ⟨r, 0, none⟩)] w (Reads (IsL w) B r bv l w (letterR l)) := by
  have hO : letterR l = .error p := by unfold letterR; simp only [hn1, thn_ok, thn_err]
  rw [hO]
  have hwm : Mod (· = r) w (w.alloc (Obj.cells #[Value.int IntKind.i64 0, Value.int IntKind.i64 0, Value.int IntKind.i64 0, Value.int IntKind.i64 0, Value.int IntKind.i64 0, Value.int IntKind.i64 0, Value.int IntKind.i64 0, Value.int IntKind.i64 0, Value.bool false, Value.slice none 0 0, Value.int IntKind.i64 0, Value.int IntKind.i64 0, Value.slice none 0 0, Value.slice none 0 0] 28)) := (Mod.refl _ w).alloc _
  have hr0 := h.of_alloc (Obj.cells #[Value.int IntKind.i64 0, Value.int IntKind.i64 0, Value.int IntKind.i64 0, Value.int IntKind.i64 0, Value.int IntKind.i64 0, Value.int IntKind.i64 0, Value.int IntKind.i64 0, Value.int IntKind.i64 0, Value.bool false, Value.slice none 0 0, Value.int IntKind.i64 0, Value.int IntKind.i64 0, Value.slice none 0 0, Value.slice none 0 0] 28)
  obtain ⟨w0, hw0⟩ : ∃ w0, w.alloc (Obj.cells #[Value.int IntKind.i64 0, Value.int IntKind.i64 0, Value.int IntKind.i64 0, Value.int IntKind.i64 0, Value.int IntKind.i64 0, Value.int IntKind.i64 0, Value.int IntKind.i64 0, Value.int IntKind.i64 0, Value.bool false, Value.slice none 0 0, Value.int IntKind.i64 0, Value.int IntKind.i64 0, Value.slice none 0 0, Value.slice none 0 0] 28) = w0 := ⟨_, rfl⟩
  rw [hw0] at hwm hr0
  have HM0 := Lib.hid hwm
  have HR0 := Lib.hid hr0
  clear h hO hwm hr0
  go_enter Tryd.func38, Tryd.ntmps38
  go_wp2_with (fail)
  have hx := number_any B r bv l 0 5 (by omega) w0 HR0.out
  rw [hn1] at hx
  refine hx.mono ?_
  rintro e w1 ⟨rfl, hm⟩
  have HM1 := Lib.hid (md_r HM0.out hm)
  clear hx hm HM0 HR0 hn1
  go_wp2_with (fail)
  exact ⟨rfl, rfl, HM1.out⟩
set_option maxRecDepth 100000 in
set_option maxHeartbeats 3200000 in
theorem letter_e2 (B : Nat) (r : Nat) (bv : Value) (l : Bs) (kd k1 p : Nat) (w : World) (h : Rr B w r bv l 0) (hn1 : nb l 0 5 = .ok (kd, k1)) (hn2 : nb l k1 5 = .error p) :
    Calls Tryd.prog 38 #[.pointer (some ⟨r, 0, none⟩)] w (Reads (IsL w) B r bv l w (letterR l)) := by
  have hO : letterR l = .error p := by unfold letterR; simp only [hn1, hn2, thn_ok, thn_err]
  rw [hO]
  have hwm : Mod (· = r) w (w.alloc (Obj.cells #[Value.int IntKind.i64 0, Value.int IntKind.i64 0, Value.int IntKind.i64 0, Value.int IntKind.i64 0, Value.int IntKind.i64 0, Value.int IntKind.i64 0, Value.int IntKind.i64 0, Value.int IntKind.i64 0, Value.bool false, Value.slice none 0 0, Value.int IntKind.i64 0, Value.int IntKind.i64 0, Value.slice none 0 0, Value.slice none 0 0] 28)) := (Mod.refl _ w).alloc _
  have hr0 := h.of_alloc (Obj.cells #[Value.int IntKind.i64 0, Value.int IntKind.i64 0, Value.int IntKind.i64 0, Value.int IntKind.i64 0, Value.int IntKind.i64 0, Value.int IntKind.i64 0, Value.int IntKind.i64 0, Value.int IntKind.i64 0, Value.bool false, Value.slice none 0 0, Value.int IntKind.i64 0, Value.int IntKind.i64 0, Value.slice none 0 0, Value.slice none 0 0] 28)
  obtain ⟨w0, hw0⟩ : ∃ w0, w.alloc (Obj.cells #[Value.int IntKind.i64 0, Value.int IntKind.i64 0, Value.int IntKind.i64 0, Value.int IntKind.i64 0, Value.int IntKind.i64 0, Value.int IntKind.i64 0, Value.int IntKind.i64 0, Value.int IntKind.i64 0, Value.bool false, Value.slice none 0 0, Value.int IntKind.i64 0, Value.int IntKind.i64 0, Value.slice none 0 0, Value.slice none 0 0] 28) = w0 := ⟨_, rfl⟩
  rw [hw0] at hwm hr0
  have HM0 := Lib.hid hwm
  have HR0 := Lib.hid hr0
  clear h hO hwm hr0
  go_enter Tryd.func38, Tryd.ntmps38
  go_wp2_with (fail)
  have hx := number_any B r bv l 0 5 (by omega) w0 HR0.out
  rw [hn1] at hx
  refine hx.mono ?_
  rintro e w1 ⟨rfl, hr, hm⟩
  have HM1 := Lib.hid (md_r HM0.out hm)
  have HR1 := Lib.hid hr
  clear hx hm hr HM0 HR0
  go_wp2_with (fail)
  have hx := number_any B r bv l k1 5 (by omega) w1 HR1.out
  rw [hn2] at hx
  refine hx.mono ?_
  rintro e w2 ⟨rfl, hm⟩
  have HM2 := Lib.hid (md_r HM1.out hm)
  clear hx hm HM1 HR1 hn1 hn2
  go_wp2_with (fail)
  exact ⟨rfl, rfl, HM2.out⟩
set_option maxRecDepth 100000 in
set_option maxHeartbeats 3200000 in
theorem letter_e3 (B : Nat) (r : Nat) (bv : Value) (l : Bs) (kd fr k1 k2 p : Nat) (w : World) (h : Rr B w r bv l 0) (hn1 : nb l 0 5 = .ok (kd, k1)) (hn2 : nb l k1 5 = .ok (fr, k2)) (hn3 : nb l k2 5 = .error p) :
    Calls Tryd.prog 38 #[.pointer (some ⟨r, 0, none⟩)] w (Reads (IsL w) B r bv l w (letterR l)) := by
  have hO : letterR l = .error p := by unfold letterR; simp only [hn1, hn2, hn3, thn_ok, thn_err]
  rw [hO]
  have hwm : Mod (· = r) w (w.alloc (Obj.cells #[Value.int IntKind.i64 0, Value.int IntKind.i64 0, Value.int IntKind.i64 0, Value.int IntKind.i64 0, Value.int IntKind.i64 0, Value.int IntKind.i64 0, Value.int IntKind.i64 0, Value.int IntKind.i64 0, Value.bool false, Value.slice none 0 0, Value.int IntKind.i64 0, Value.int IntKind.i64 0, Value.slice none 0 0, Value.slice none 0 0] 28)) := (Mod.refl _ w).alloc _
  have hr0 := h.of_alloc (Obj.cells #[Value.int IntKind.i64 0, Value.int IntKind.i64 0, Value.int IntKind.i64 0, Value.int IntKind.i64 0, Value.int IntKind.i64 0, Value.int IntKind.i64 0, Value.int IntKind.i64 0, Value.int IntKind.i64 0, Value.bool false, Value.slice none 0 0, Value.int IntKind.i64 0, Value.int IntKind.i64 0, Value.slice none 0 0, Value.slice none 0 0] 28)
  obtain ⟨w0, hw0⟩ : ∃ w0, w.alloc (Obj.cells #[Value.int IntKind.i64 0, Value.int IntKind.i64 0, Value.int IntKind.i64 0, Value.int IntKind.i64 0, Value.int IntKind.i64 0, Value.int IntKind.i64 0, Value.int IntKind.i64 0, Value.int IntKind.i64 0, Value.bool false, Value.slice none 0 0, Value.int IntKind.i64 0, Value.int IntKind.i64 0, Value.slice none 0 0, Value.slice none 0 0] 28) = w0 := ⟨_, rfl⟩
  rw [hw0] at hwm hr0
  have HM0 := Lib.hid hwm
  have HR0 := Lib.hid hr0
  clear h hO hwm hr0
  go_enter Tryd.func38, Tryd.ntmps38
  go_wp2_with (fail)
  have hx := number_any B r bv l 0 5 (by omega) w0 HR0.out
  rw [hn1] at hx
  refine hx.mono ?_
  rintro e w1 ⟨rfl, hr, hm⟩
  have HM1 := Lib.hid (md_r HM0.out hm)
  have HR1 := Lib.hid hr
  clear hx hm hr HM0 HR0
  go_wp2_with (fail)
  have hx := number_any B r bv l k1 5 (by omega) w1 HR1.out
  rw [hn2] at hx
  refine hx.mono ?_
  rintro e w2 ⟨rfl, hr, hm⟩
  have HM2 := Lib.hid (md_r HM1.out hm)
  have HR2 := Lib.hid hr
  clear hx hm hr HM1 HR1
  go_wp2_with (fail)
  have hx := number_any B r bv l k2 5 (by omega) w2 HR2.out
  rw [hn3] at hx
  refine hx.mono ?_
  rintro e w3 ⟨rfl, hm⟩
  have HM3 := Lib.hid (md_r HM2.out hm)
  clear hx hm HM2 HR2 hn1 hn2 hn3
  go_wp2_with (fail)
  exact ⟨rfl, rfl, HM3.out⟩
set_option maxRecDepth 100000 in
set_option maxHeartbeats 3200000 in
theorem letter_e4 (B : Nat) (r : Nat) (bv : Value) (l : Bs) (kd fr tt k1 k2 k3 p : Nat) (w : World) (h : Rr B w r bv l 0) (hn1 : nb l 0 5 = .ok (kd, k1)) (hn2 : nb l k1 5 = .ok (fr, k2)) (hn3 : nb l k2 5 = .ok (tt, k3)) (hn4 : nb l k3 999999 = .error p) :
    Calls Tryd.prog 38 #[.pointer (some ⟨r, 0, none⟩)] w (Reads (IsL w) B r bv l w (letterR l)) := by
  have hO : letterR l = .error p := by unfold letterR; simp only [hn1, hn2, hn3, hn4, thn_ok, thn_err]
  rw [hO]
  have hwm : Mod (· = r) w (w.alloc (Obj.cells #[Value.int IntKind.i64 0, Value.int IntKind.i64 0, Value.int IntKind.i64 0, Value.int IntKind.i64 0, Value.int IntKind.i64 0, Value.int IntKind.i64 0, Value.int IntKind.i64 0, Value.int IntKind.i64 0, Value.bool false, Value.slice none 0 0, Value.int IntKind.i64 0, Value.int IntKind.i64 0, Value.slice none 0 0, Value.slice none 0 0] 28)) := (Mod.refl _ w).alloc _
  have hr0 := h.of_alloc (Obj.cells #[Value.int IntKind.i64 0, Value.int IntKind.i64 0, Value.int IntKind.i64 0, Value.int IntKind.i64 0, Value.int IntKind.i64 0, Value.int IntKind.i64 0, Value.int IntKind.i64 0, Value.int IntKind.i64 0, Value.bool false, Value.slice none 0 0, Value.int IntKind.i64 0, Value.int IntKind.i64 0, Value.slice none 0 0, Value.slice none 0 0] 28)
  obtain ⟨w0, hw0⟩ : ∃ w0, w.alloc (Obj.cells #[Value.int IntKind.i64 0, Value.int IntKind.i64 0, Value.int IntKind.i64 0, Value.int IntKind.i64 0, Value.int IntKind.i64 0, Value.int IntKind.i64 0, Value.int IntKind.i64 0, Value.int IntKind.i64 0, Value.bool false, Value.slice none 0 0, Value.int IntKind.i64 0, Value.int IntKind.i64 0, Value.slice none 0 0, Value.slice none 0 0] 28) = w0 := ⟨_, rfl⟩
  rw [hw0] at hwm hr0
  have HM0 := Lib.hid hwm
  have HR0 := Lib.hid hr0
  clear h hO hwm hr0
  go_enter Tryd.func38, Tryd.ntmps38
  go_wp2_with (fail)
  have hx := number_any B r bv l 0 5 (by omega) w0 HR0.out
  rw [hn1] at hx
  refine hx.mono ?_
  rintro e w1 ⟨rfl, hr, hm⟩
  have HM1 := Lib.hid (md_r HM0.out hm)
  have HR1 := Lib.hid hr
  clear hx hm hr HM0 HR0
  go_wp2_with (fail)
  have hx := number_any B r bv l k1 5 (by omega) w1 HR1.out
  rw [hn2] at hx
  refine hx.mono ?_
  rintro e w2 ⟨rfl, hr, hm⟩
  have HM2 := Lib.hid (md_r HM1.out hm)
  have HR2 := Lib.hid hr
  clear hx hm hr HM1 HR1
  go_wp2_with (fail)
  have hx := number_any B r bv l k2 5 (by omega) w2 HR2.out
  rw [hn3] at hx
  refine hx.mono ?_
  rintro e w3 ⟨rfl, hr, hm⟩
  have HM3 := Lib.hid (md_r HM2.out hm)
  have HR3 := Lib.hid hr
  clear hx hm hr HM2 HR2
  go_wp2_with (fail)
  have hx := number_any B r bv l k3 999999 (by omega) w3 HR3.out
  rw [hn4] at hx
  refine hx.mono ?_
  rintro e w4 ⟨rfl, hm⟩
  have HM4 := Lib.hid (md_r HM3.out hm)
  clear hx hm HM3 HR3 hn1 hn2 hn3 hn4
  go_wp2_with (fail)
  exact ⟨rfl, rfl, HM4.out⟩
set_option maxRecDepth 100000 in
set_option maxHeartbeats 3200000 in
theorem letter_e5 (B : Nat) (r : Nat) (bv : Value) (l : Bs) (fr tt tm k1 k2 k3 k4 : Nat) (w : World) (h : Rr B w r bv l 0) (hn1 : nb l 0 5 = .ok (0, k1)) (hn2 : nb l k1 5 = .ok (fr, k2)) (hn3 : nb l k2 5 = .ok (tt, k3)) (hn4 : nb l k3 999999 = .ok (tm, k4)) :
    Calls Tryd.prog 38 #[.pointer (some ⟨r, 0, none⟩)] w (Reads (IsL w) B r bv l w (letterR l)) := by
  have hO : letterR l = .error 0 := by unfold letterR; simp only [hn1, hn2, hn3, hn4, thn_ok]; unfold restR; rw [if_pos rfl]
  rw [hO]
  have hwm : Mod (· = r) w (w.alloc (Obj.cells #[Value.int IntKind.i64 0, Value.int IntKind.i64 0, Value.int IntKind.i64 0, Value.int IntKind.i64 0, Value.int IntKind.i64 0, Value.int IntKind.i64 0, Value.int IntKind.i64 0, Value.int IntKind.i64 0, Value.bool false, Value.slice none 0 0, Value.int IntKind.i64 0, Value.int IntKind.i64 0, Value.slice none 0 0, Value.slice none 0 0] 28)) := (Mod.refl _ w).alloc _
  have hr0 := h.of_alloc (Obj.cells #[Value.int IntKind.i64 0, Value.int IntKind.i64 0, Value.int IntKind.i64 0, Value.int IntKind.i64 0, Value.int IntKind.i64 0, Value.int IntKind.i64 0, Value.int IntKind.i64 0, Value.int IntKind.i64 0, Value.bool false, Value.slice none 0 0, Value.int IntKind.i64 0, Value.int IntKind.i64 0, Value.slice none 0 0, Value.slice none 0 0] 28)
  obtain ⟨w0, hw0⟩ : ∃ w0, w.alloc (Obj.cells #[Value.int IntKind.i64 0, Value.int IntKind.i64 0, Value.int IntKind.i64 0, Value.int IntKind.i64 0, Value.int IntKind.i64 0, Value.int IntKind.i64 0, Value.int IntKind.i64 0, Value.int IntKind.i64 0, Value.bool false, Value.slice none 0 0, Value.int IntKind.i64 0, Value.int IntKind.i64 0, Value.slice none 0 0, Value.slice none 0 0] 28) = w0 := ⟨_, rfl⟩
  rw [hw0] at hwm hr0
  have HM0 := Lib.hid hwm
  have HR0 := Lib.hid hr0
  clear h hO hwm hr0
  go_enter Tryd.func38, Tryd.ntmps38
  go_wp2_with (fail)
  have hx := number_any B r bv l 0 5 (by omega) w0 HR0.out
  rw [hn1] at hx
  refine hx.mono ?_
  rintro e w1 ⟨rfl, hr, hm⟩
  have HM1 := Lib.hid (md_r HM0.out hm)
  have HR1 := Lib.hid hr
  clear hx hm hr HM0 HR0
  go_wp2_with (fail)
  have hx := number_any B r bv l k1 5 (by omega) w1 HR1.out
  rw [hn2] at hx
  refine hx.mono ?_
  rintro e w2 ⟨rfl, hr, hm⟩
  have HM2 := Lib.hid (md_r HM1.out hm)
  have HR2 := Lib.hid hr
  clear hx hm hr HM1 HR1
  go_wp2_with (fail)
  have hx := number_any B r bv l k2 5 (by omega) w2 HR2.out
  rw [hn3] at hx
  refine hx.mono ?_
  rintro e w3 ⟨rfl, hr, hm⟩
  have HM3 := Lib.hid (md_r HM2.out hm)
  have HR3 := Lib.hid hr
  clear hx hm hr HM2 HR2
  go_wp2_with (fail)
  have hx := number_any B r bv l k3 999999 (by omega) w3 HR3.out
  rw [hn4] at hx
  refine hx.mono ?_
  rintro e w4 ⟨rfl, hr, hm⟩
  have HM4 := Lib.hid (md_r HM3.out hm)
  have HR4 := Lib.hid hr
  clear hx hm hr HM3 HR3
  go_wp2_with (fail)
  exact ⟨rfl, rfl, HM4.out.alloc _⟩
end Go.Proofs.YtknaaaphdjdaoaaDoor
end
