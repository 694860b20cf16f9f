/-
  The reader: letters, an LAppend.
-/
import Derived.Test.YtknaaaphdjdaoaaDoorLe
import Derived.Test.YtknaaaphdjdaoaaDoorLm
namespace Go.Proofs.YtknaaaphdjdaoaaDoor
open Go.RowKit Mem
set_option linter.unusedVariables false
set_option linter.unusedSimpArgs false

theorem set4a {w : World} {g : Nat} {t : TypeId} {b0 b1 b2 b3 b4 b5 b6 b7 b8 b9 b10 b11 b12 b13 : Value} (h : Blk w g #[b0, b1, b2, b3, b4, b5, b6, b7, b8, b9, b10, b11, b12, b13] t) (a0 a1 a2 a3 : Value) : Blk ((((w.setCell ⟨g, 4, none⟩ a0).setCell ⟨g, 5, none⟩ a1).setCell ⟨g, 6, none⟩ a2).setCell ⟨g, 7, none⟩ a3) g #[b0, b1, b2, b3, a0, a1, a2, a3, b8, b9, b10, b11, b12, b13] t := by
  have := (((h.set 4 a0).set 5 a1).set 6 a2).set 7 a3
  exact this
theorem set5e {w : World} {g : Nat} {t : TypeId} {b0 b1 b2 b3 b4 : Value} (h : Blk w g #[b0, b1, b2, b3, b4] t) (a0 a1 a2 a3 a4 : Value) : Blk (((((w.setCell ⟨g, 0, none⟩ a0).setCell ⟨g, 1, none⟩ a1).setCell ⟨g, 2, none⟩ a2).setCell ⟨g, 3, none⟩ a3).setCell ⟨g, 4, none⟩ a4) g #[a0, a1, a2, a3, a4] t := by
  have := ((((h.set 0 a0).set 1 a1).set 2 a2).set 3 a3).set 4 a4
  exact this
set_option maxRecDepth 100000 in
set_option maxHeartbeats 3200000 in
theorem letter_3 (B : Nat) (r : Nat) (bv : Value) (l : Bs) (fr tt tm k1 k2 k3 k4 : Nat) (w : World) (h : Rr B w r bv l 0) (hn1 : nb l 0 5 = .ok (3, k1)) (hn2 : nb l k1 5 = .ok (fr, k2)) (hn3 : nb l k2 5 = .ok (tt, k3)) (hn4 : nb l k3 999999 = .ok (tm, k4)) :
    Calls Tryd.prog 38 #[.pointer (some ⟨r, 0, none⟩)] w (Reads (IsL w) B r bv l w (letterR l)) := by
  have hO1 : letterR l = restR l 3 fr tt tm k4 := by unfold letterR; simp only [hn1, hn2, hn3, hn4, thn]
  obtain ⟨O, hO⟩ : ∃ O, letterR l = O := ⟨_, rfl⟩
  rw [hO]
  rw [hO] at hO1
  have HO := Lib.hid hO1
  have hwm : Mod (· = r) w (w.alloc (Obj.cells #[Value.int IntKind.i64 0, Value.int IntKind.i64 0, Value.int IntKind.i64 0, Value.int IntKind.i64 0, Value.int IntKind.i64 0, Value.int IntKind.i64 0, Value.int IntKind.i64 0, Value.int IntKind.i64 0, Value.bool false, Value.slice none 0 0, Value.int IntKind.i64 0, Value.int IntKind.i64 0, Value.slice none 0 0, Value.slice none 0 0] 28)) := (Mod.refl _ w).alloc _
  have hres := Blk.new w #[Value.int IntKind.i64 0, Value.int IntKind.i64 0, Value.int IntKind.i64 0, Value.int IntKind.i64 0, Value.int IntKind.i64 0, Value.int IntKind.i64 0, Value.int IntKind.i64 0, Value.int IntKind.i64 0, Value.bool false, Value.slice none 0 0, Value.int IntKind.i64 0, Value.int IntKind.i64 0, Value.slice none 0 0, Value.slice none 0 0] 28
  have hr0 := h.of_alloc (Obj.cells #[Value.int IntKind.i64 0, Value.int IntKind.i64 0, Value.int IntKind.i64 0, Value.int IntKind.i64 0, Value.int IntKind.i64 0, Value.int IntKind.i64 0, Value.int IntKind.i64 0, Value.int IntKind.i64 0, Value.bool false, Value.slice none 0 0, Value.int IntKind.i64 0, Value.int IntKind.i64 0, Value.slice none 0 0, Value.slice none 0 0] 28)
  have hrw : r < w.heap.size := h.1.lt
  have HRW := Lib.hid hrw
  have HBW := Lib.hid h.2.2.2.2.2.2
  obtain ⟨w0, hw0⟩ : ∃ w0, w.alloc (Obj.cells #[Value.int IntKind.i64 0, Value.int IntKind.i64 0, Value.int IntKind.i64 0, Value.int IntKind.i64 0, Value.int IntKind.i64 0, Value.int IntKind.i64 0, Value.int IntKind.i64 0, Value.int IntKind.i64 0, Value.bool false, Value.slice none 0 0, Value.int IntKind.i64 0, Value.int IntKind.i64 0, Value.slice none 0 0, Value.slice none 0 0] 28) = w0 := ⟨_, rfl⟩
  rw [hw0] at hwm hres hr0
  have hx1 := number_any B r bv l 0 5 (by omega) w0 hr0
  rw [hn1] at hx1
  have HM0 := Lib.hid hwm
  have HB0 := Lib.hid hres
  clear h hO hO1 hwm hres hr0 hrw
  go_enter Tryd.func38, Tryd.ntmps38
  go_wp2_with (fail)
  clear hw0
  refine hx1.mono ?_
  rintro e w1 ⟨rfl, hr1, hm1⟩
  have HM1 := Lib.hid (md_r HM0.out hm1)
  have HB1 := Lib.hid (HB0.out.mod hm1 (by have := HRW.out; omega))
  have hx2 := number_any B r bv l k1 5 (by omega) w1 hr1
  rw [hn2] at hx2
  clear hx1 hr1 hm1 HM0 HB0
  go_wp2_with (fail)
  refine hx2.mono ?_
  rintro e w2 ⟨rfl, hr2, hm2⟩
  have HM2 := Lib.hid (md_r HM1.out hm2)
  have HB2 := Lib.hid (HB1.out.mod hm2 (by have := HRW.out; omega))
  have hx3 := number_any B r bv l k2 5 (by omega) w2 hr2
  rw [hn3] at hx3
  clear hx2 hr2 hm2 HM1 HB1
  go_wp2_with (fail)
  refine hx3.mono ?_
  rintro e w3 ⟨rfl, hr3, hm3⟩
  have HM3 := Lib.hid (md_r HM2.out hm3)
  have HB3 := Lib.hid (HB2.out.mod hm3 (by have := HRW.out; omega))
  have hx4 := number_any B r bv l k3 999999 (by omega) w3 hr3
  rw [hn4] at hx4
  clear hx3 hr3 hm3 HM2 HB2
  go_wp2_with (fail)
  refine hx4.mono ?_
  rintro e w4 ⟨rfl, hr4, hm4⟩
  have HM4 := Lib.hid (md_r HM3.out hm4)
  have HB4 := Lib.hid (HB3.out.mod hm4 (by have := HRW.out; omega))
  have HR4 := Lib.hid hr4
  clear hx4 hr4 hm4 HM3 HB3 hn1 hn2 hn3 hn4
  go_wp2_with (fail)
  have hO1 := HO.out
  unfold restR at hO1
  rw [if_neg (by decide), if_neg (by decide), if_neg (by decide), if_neg (by decide), if_neg (by decide)] at hO1
  clear HO
  have HO := Lib.hid hO1
  clear hO1
  have hG0 := Blk.new w4 #[.int .i64 (3 : Int), .int .i64 (fr : Int), .int .i64 (tt : Int), .int .i64 (tm : Int), .int .i64 (0 : Int), .int .i64 (0 : Int), .int .i64 (0 : Int), .int .i64 (0 : Int), .bool false, .slice none 0 0, .int .i64 (0 : Int), .int .i64 (0 : Int), .slice none 0 0, .slice none 0 0] 28
  obtain ⟨G, hG⟩ : ∃ G, w4.heap.size = G := ⟨_, rfl⟩
  rw [hG] at hG0
  have hGr : r < G := by have := HRW.out; have := HM4.out.size; omega
  have hGw : w.heap.size < G := by rw [← hG]; exact HB4.out.lt
  have HGR := Lib.hid hGr
  have hne : ¬ w.heap.size = G := by omega
  have hne' : ¬ G = w.heap.size := by omega
  have hM5 := HM4.out.alloc (.cells #[.int .i64 (3 : Int), .int .i64 (fr : Int), .int .i64 (tt : Int), .int .i64 (tm : Int), .int .i64 (0 : Int), .int .i64 (0 : Int), .int .i64 (0 : Int), .int .i64 (0 : Int), .bool false, .slice none 0 0, .int .i64 (0 : Int), .int .i64 (0 : Int), .slice none 0 0, .slice none 0 0] 28)
  have hB5 := HB4.out.alloc (.cells #[.int .i64 (3 : Int), .int .i64 (fr : Int), .int .i64 (tt : Int), .int .i64 (tm : Int), .int .i64 (0 : Int), .int .i64 (0 : Int), .int .i64 (0 : Int), .int .i64 (0 : Int), .bool false, .slice none 0 0, .int .i64 (0 : Int), .int .i64 (0 : Int), .slice none 0 0, .slice none 0 0] 28)
  have hR5 := HR4.out.of_alloc (.cells #[.int .i64 (3 : Int), .int .i64 (fr : Int), .int .i64 (tt : Int), .int .i64 (tm : Int), .int .i64 (0 : Int), .int .i64 (0 : Int), .int .i64 (0 : Int), .int .i64 (0 : Int), .bool false, .slice none 0 0, .int .i64 (0 : Int), .int .i64 (0 : Int), .slice none 0 0, .slice none 0 0] 28)
  obtain ⟨w5, hw5⟩ : ∃ w5, w4.alloc (.cells #[.int .i64 (3 : Int), .int .i64 (fr : Int), .int .i64 (tt : Int), .int .i64 (tm : Int), .int .i64 (0 : Int), .int .i64 (0 : Int), .int .i64 (0 : Int), .int .i64 (0 : Int), .bool false, .slice none 0 0, .int .i64 (0 : Int), .int .i64 (0 : Int), .slice none 0 0, .slice none 0 0] 28) = w5 := ⟨_, rfl⟩
  rw [hw5] at hG0 hM5 hB5 hR5
  have HM5 := Lib.hid hM5
  have HB5 := Lib.hid hB5
  have HR5 := Lib.hid hR5
  have HL5 := Lib.hid hG0
  have HGW := Lib.hid hGw
  clear hM5 hB5 hR5 hG0 HM4 HB4 HR4 hGr hGw
  simp only [hG, hw5]
  clear hw5
  have hx := number_any B r bv l k4 999999 (by omega) w5 HR5.out
  refine hx.mono ?_
  intro e w6 hR
  cases hnb : nb l k4 999999 with
  | error p =>
    rw [hnb] at hR
    obtain ⟨rfl, hm⟩ := hR
    have hO2 := HO.out
    rw [hnb, thn_err] at hO2
    have HE := Lib.hid hO2
    have HM6 := Lib.hid (md_r HM5.out hm)
    clear hx hnb hO2 hm HO HM5 HB5 HR5 HL5
    go_wp2_with (fail)
    refine ⟨rfl, ?_⟩
    rw [HE.out]
    exact ⟨rfl, HM6.out⟩
  | ok x =>
    obtain ⟨ix, k6⟩ := x
    rw [hnb] at hR
    obtain ⟨rfl, hr, hm⟩ := hR
    have hO2 := HO.out
    rw [hnb] at hO2
    simp only [thn_ok] at hO2
    have hleix := (nb_le HR5.out.2.2.2.1 hnb).1
    clear HO
    have HO := Lib.hid hO2
    have HM6 := Lib.hid (md_r HM5.out hm)
    have HB6 := Lib.hid (HB5.out.mod hm (by have := HRW.out; omega))
    have HL6 := Lib.hid (HL5.out.mod hm (by have := HGR.out; omega))
    have HR6 := Lib.hid hr
    skip
    clear hx hnb hO2 hm hr HM5 HB5 HR5 HL5
    go_wp2_with (fail)
    have hx := number_any B r bv l k6 999999 (by omega) w6 HR6.out
    refine hx.mono ?_
    intro e w7 hR
    cases hnb : nb l k6 999999 with
    | error p =>
      rw [hnb] at hR
      obtain ⟨rfl, hm⟩ := hR
      have hO2 := HO.out
      rw [hnb, thn_err] at hO2
      have HE := Lib.hid hO2
      have HM7 := Lib.hid (md_r HM6.out hm)
      clear hx hnb hO2 hm HO HM6 HB6 HR6 HL6
      go_wp2_with (fail)
      refine ⟨rfl, ?_⟩
      rw [HE.out]
      exact ⟨rfl, HM7.out⟩
    | ok x =>
      obtain ⟨lt, k7⟩ := x
      rw [hnb] at hR
      obtain ⟨rfl, hr, hm⟩ := hR
      have hO2 := HO.out
      rw [hnb] at hO2
      simp only [thn_ok] at hO2
      have hlelt := (nb_le HR6.out.2.2.2.1 hnb).1
      clear HO
      have HO := Lib.hid hO2
      have HM7 := Lib.hid (md_r HM6.out hm)
      have HB7 := Lib.hid (HB6.out.mod hm (by have := HRW.out; omega))
      have HL7 := Lib.hid (HL6.out.mod hm (by have := HGR.out; omega))
      have HR7 := Lib.hid hr
      skip
      clear hx hnb hO2 hm hr HM6 HB6 HR6 HL6
      go_wp2_with (fail)
      have hx := number_any B r bv l k7 999999 (by omega) w7 HR7.out
      refine hx.mono ?_
      intro e w8 hR
      cases hnb : nb l k7 999999 with
      | error p =>
        rw [hnb] at hR
        obtain ⟨rfl, hm⟩ := hR
        have hO2 := HO.out
        rw [hnb, thn_err] at hO2
        have HE := Lib.hid hO2
        have HM8 := Lib.hid (md_r HM7.out hm)
        clear hx hnb hO2 hm HO HM7 HB7 HR7 HL7
        go_wp2_with (fail)
        refine ⟨rfl, ?_⟩
        rw [HE.out]
        exact ⟨rfl, HM8.out⟩
      | ok x =>
        obtain ⟨cm, k8⟩ := x
        rw [hnb] at hR
        obtain ⟨rfl, hr, hm⟩ := hR
        have hO2 := HO.out
        rw [hnb] at hO2
        simp only [thn_ok] at hO2
        have hlecm := (nb_le HR7.out.2.2.2.1 hnb).1
        clear HO
        have HO := Lib.hid hO2
        have HM8 := Lib.hid (md_r HM7.out hm)
        have HB8 := Lib.hid (HB7.out.mod hm (by have := HRW.out; omega))
        have HL8 := Lib.hid (HL7.out.mod hm (by have := HGR.out; omega))
        have HR8 := Lib.hid hr
        skip
        clear hx hnb hO2 hm hr HM7 HB7 HR7 HL7
        go_wp2_with (fail)
        have hx := number_any B r bv l k8 1073741824 (by omega) w8 HR8.out
        refine hx.mono ?_
        intro e w9 hR
        cases hnb : nb l k8 1073741824 with
        | error p =>
          rw [hnb] at hR
          obtain ⟨rfl, hm⟩ := hR
          have hO2 := HO.out
          rw [hnb, thn_err] at hO2
          have HE := Lib.hid hO2
          have HM9 := Lib.hid (md_r HM8.out hm)
          clear hx hnb hO2 hm HO HM8 HB8 HR8 HL8
          go_wp2_with (fail)
          refine ⟨rfl, ?_⟩
          rw [HE.out]
          exact ⟨rfl, HM9.out⟩
        | ok x =>
          obtain ⟨rd, k9⟩ := x
          rw [hnb] at hR
          obtain ⟨rfl, hr, hm⟩ := hR
          have hO2 := HO.out
          rw [hnb] at hO2
          simp only [thn_ok] at hO2
          have hlerd := (nb_le HR8.out.2.2.2.1 hnb).1
          clear HO
          have HO := Lib.hid hO2
          have HM9 := Lib.hid (md_r HM8.out hm)
          have HB9 := Lib.hid (HB8.out.mod hm (by have := HRW.out; omega))
          have HL9 := Lib.hid (HL8.out.mod hm (by have := HGR.out; omega))
          have HR9 := Lib.hid hr
          skip
          clear hx hnb hO2 hm hr HM8 HB8 HR8 HL8
          have c4 : w9.cell? ⟨G, 4, none⟩ = some (.int .i64 (0 : Int)) := HL9.out.cell 4
          have zc4 := HL9.out.frozen 4
          have c5 : w9.cell? ⟨G, 5, none⟩ = some (.int .i64 (0 : Int)) := HL9.out.cell 5
          have zc5 := HL9.out.frozen 5
          have c6 : w9.cell? ⟨G, 6, none⟩ = some (.int .i64 (0 : Int)) := HL9.out.cell 6
          have zc6 := HL9.out.frozen 6
          have c7 : w9.cell? ⟨G, 7, none⟩ = some (.int .i64 (0 : Int)) := HL9.out.cell 7
          have zc7 := HL9.out.frozen 7
          go_wp2_with (fail)
          have hq : Mod (· = G) w9 ((((w9.setCell ⟨G, 4, none⟩ (.int .i64 (ix : Int))).setCell ⟨G, 5, none⟩ (.int .i64 (lt : Int))).setCell ⟨G, 6, none⟩ (.int .i64 (cm : Int))).setCell ⟨G, 7, none⟩ (.int .i64 (rd : Int))) := (Mod.setCell (S := (· = G)) (Mod.setCell (S := (· = G)) (Mod.setCell (S := (· = G)) (Mod.setCell (S := (· = G)) (Mod.refl (· = G) w9) (p := ⟨G, 4, none⟩) (.inl rfl) _) (p := ⟨G, 5, none⟩) (.inl rfl) _) (p := ⟨G, 6, none⟩) (.inl rfl) _) (p := ⟨G, 7, none⟩) (.inl rfl) _)
          have hL : Blk ((((w9.setCell ⟨G, 4, none⟩ (.int .i64 (ix : Int))).setCell ⟨G, 5, none⟩ (.int .i64 (lt : Int))).setCell ⟨G, 6, none⟩ (.int .i64 (cm : Int))).setCell ⟨G, 7, none⟩ (.int .i64 (rd : Int))) G #[.int .i64 (3 : Int), .int .i64 (fr : Int), .int .i64 (tt : Int), .int .i64 (tm : Int), .int .i64 (ix : Int), .int .i64 (lt : Int), .int .i64 (cm : Int), .int .i64 (rd : Int), .bool false, .slice none 0 0, .int .i64 (0 : Int), .int .i64 (0 : Int), .slice none 0 0, .slice none 0 0] 28 := set4a HL9.out _ _ _ _
          obtain ⟨w10, hw⟩ : ∃ w10, ((((w9.setCell ⟨G, 4, none⟩ (.int .i64 (ix : Int))).setCell ⟨G, 5, none⟩ (.int .i64 (lt : Int))).setCell ⟨G, 6, none⟩ (.int .i64 (cm : Int))).setCell ⟨G, 7, none⟩ (.int .i64 (rd : Int))) = w10 := ⟨_, rfl⟩
          rw [hw] at hq hL
          clear c4 zc4 c5 zc5 c6 zc6 c7 zc7
          simp only [hw]
          clear hw
          have HM10 := Lib.hid (HM9.out.trans hq (fun i hi => .inr (by have := HGW.out; omega)))
          have HB10 := Lib.hid (HB9.out.mod hq (by have := HGW.out; omega))
          have HL10 := Lib.hid hL
          have HR10 := Lib.hid (HR9.out.keep hq (fun b hb => by have h1 := HBW.out; have h2 := HGW.out; omega))
          clear hq hL HM9 HB9 HL9 HR9
          have hx := number_any B r bv l k9 4 (by omega) w10 HR10.out
          refine hx.mono ?_
          intro e w11 hR
          cases hnb : nb l k9 4 with
          | error p =>
            rw [hnb] at hR
            obtain ⟨rfl, hm⟩ := hR
            have hO2 := HO.out
            rw [hnb, thn_err] at hO2
            have HE := Lib.hid hO2
            have HM11 := Lib.hid (md_r HM10.out hm)
            clear hx hnb hO2 hm HO HM10 HB10 HR10 HL10
            go_wp2_with (fail)
            refine ⟨rfl, ?_⟩
            rw [HE.out]
            exact ⟨rfl, HM11.out⟩
          | ok x =>
            obtain ⟨n, k11⟩ := x
            rw [hnb] at hR
            obtain ⟨rfl, hr, hm⟩ := hR
            have hO2 := HO.out
            rw [hnb] at hO2
            simp only [thn_ok] at hO2
            have hlen := (nb_le HR10.out.2.2.2.1 hnb).1
            clear HO
            have HO := Lib.hid hO2
            have HM11 := Lib.hid (md_r HM10.out hm)
            have HB11 := Lib.hid (HB10.out.mod hm (by have := HRW.out; omega))
            have HL11 := Lib.hid (HL10.out.mod hm (by have := HGR.out; omega))
            have HR11 := Lib.hid hr
            skip
            clear hx hnb hO2 hm hr HM10 HB10 HR10 HL10
            go_wp2_with (fail)
            have hO4 := HO.out
            have HOE := Lib.hid hO4
            clear hO4 HO
            go_loopw [77] (fun v77 wr => ∃ (i kk : Nat) (es : List En) (xs : List Value) (C : Option Addr) (cb : Nat), v77 = .int .i64 (i : Int) ∧ i ≤ n ∧ Hid (es.length = i) ∧ Hid (Rr B wr r bv l kk) ∧ Hid (Mod (· = r) w wr) ∧ Hid (Blk wr w.heap.size #[.int .i64 (0 : Int), .int .i64 (0 : Int), .int .i64 (0 : Int), .int .i64 (0 : Int), .int .i64 (0 : Int), .int .i64 (0 : Int), .int .i64 (0 : Int), .int .i64 (0 : Int), .bool false, .slice none 0 0, .int .i64 (0 : Int), .int .i64 (0 : Int), .slice none 0 0, .slice none 0 0] 28) ∧ Hid (Blk wr G #[.int .i64 (3 : Int), .int .i64 (fr : Int), .int .i64 (tt : Int), .int .i64 (tm : Int), .int .i64 (ix : Int), .int .i64 (lt : Int), .int .i64 (cm : Int), .int .i64 (rd : Int), .bool false, .slice C i cb, .int .i64 (0 : Int), .int .i64 (0 : Int), .slice none 0 0, .slice none 0 0] 28) ∧ Hid (wr.ownsRow (G + 1) 45 5 (.slice C i cb) i xs) ∧ Hid (C5 wr G (Value.slice C i cb).ownBlock xs es) ∧ Hid (entsR l ix n 0 k11 = thn (entsR l ix (n - i) i kk) fun es' j' => .ok (es ++ es', j'))) (fun i _ => n - (iOf i).toNat)
            case atStart =>
              exact ⟨0, k11, [], [], none, 0, rfl, by omega, Lib.hid rfl, HR11, HM11, HB11, HL11, Lib.hid (World.ownsRow_nil _ _ _ _), Lib.hid rfl, Lib.hid (by rw [Nat.sub_zero]; cases entsR l ix n 0 k11 <;> rfl)⟩
            case round =>
              obtain ⟨i, kk, es, xs, C, cb, rfl, hi, HEL, HRr, HMr, HBr, HLr, hown, hC, hE⟩ := hrel
              by_cases hlt : i < n
              · have q1 : (i : Int) < (n : Int) := by omega
                have c4 : wr.cell? ⟨G, 4, none⟩ = some (.int .i64 (ix : Int)) := HLr.out.cell 4
                go_upto_region 19 with (fail)
                have HX : Hid (∀ w', Mod (· = r) wr w' → w'.cell? ⟨G, 4, none⟩ = some (.int .i64 (ix : Int))) := Lib.hid (fun w' hm => (HLr.out.mod hm (by have := HGR.out; omega)).cell 4)
                clear c4
                have hw1 : IntKind.i64.wrap ((ix : Int) + 1) = ix + 1 := by rw [IntKind.wrap_i64]; omega
                have hw2 : IntKind.i64.wrap ((ix : Int) + 1 + (i : Int)) = ix + 1 + i := by rw [IntKind.wrap_i64]; omega
                have HS1 : Hid (∀ p, nb l kk 999999 = .error p → O = .error p) := Lib.hid (fun p h => by rw [HOE.out, hE.out, show n - i = (n - (i + 1)) + 1 by omega, entsR, entR, h]; rfl)
                have HS2 : Hid (∀ a k p, nb l kk 999999 = .ok (a, k) → nb l k 2 = .error p → O = .error p) := Lib.hid (fun a k p h h' => by rw [HOE.out, hE.out, show n - i = (n - (i + 1)) + 1 by omega, entsR, entR, h, thn_ok, h']; rfl)
                go_cut [5] (fun v5 wx => ∃ (tm' k5 kd k6 E : Nat), v5 = .pointer (some ⟨E, 0, none⟩) ∧ nb l kk 999999 = .ok (tm', k5) ∧ nb l k5 2 = .ok (kd, k6) ∧ Hid (Rr B wx r bv l k6) ∧ Hid (Mod (· = r) wr wx) ∧ Hid (wr.heap.size ≤ E) ∧ Hid (Blk wx E #[.int .i64 (ix + 1 + i : Int), .int .i64 (tm' : Int), .int .i64 (kd : Int), .slice none 0 0, .slice none 0 0] 45))
                case first =>
                  refine wp_region_held_drew (S := fun w' => Mod (· = r) wr w') (by kernel_rfl) (Mod.refl _ wr).drew (fun hHeld => ?_)
                  refine wpAnyH_take (i := 0) (oi := { dst := some 80, op := Op.fieldAddr 28 (Operand.tmp 3) 4, type := 0, pos := "wire.go:185", after := #[], guard := none }) (v := ?_) rfl (by kernel_rfl) (by kernel_rfl) (by kernel_rfl) (fun _ _ _ h => h) (Or.inl ⟨by rfl, ?_⟩) hHeld ?_
                  rotate_left
                  · intro w' hSw
                    go_simp
                    try with_reducible rfl
                  try simp only [Act.put, List.setIfInBounds_toArray, List.set_cons_zero, List.set_cons_succ]
                  refine wpAnyH_take (i := 1) (oi := { dst := some 81, op := Op.load 3 (Operand.tmp 80), type := 3, pos := "wire.go:185", after := #[{ on := 0, ground := Ground.data }], guard := none }) (v := ?_) rfl (by kernel_rfl) (by kernel_rfl) (by kernel_rfl) (fun _ _ _ h => h) (Or.inl ⟨by rfl, ?_⟩) hHeld ?_
                  rotate_left
                  · intro w' hSw
                    have y1 := HX.out w' hSw
                    go_simp
                    try with_reducible rfl
                  try simp only [Act.put, List.setIfInBounds_toArray, List.set_cons_zero, List.set_cons_succ]
                  refine wpAnyH_take (i := 2) (oi := { dst := some 82, op := Op.binOp BinOp.add 3 (Operand.tmp 81) (Operand.const (Value.int IntKind.i64 1)) 3, type := 3, pos := "wire.go:185", after := #[{ on := 1, ground := Ground.data }], guard := none }) (v := ?_) rfl (by kernel_rfl) (by kernel_rfl) (by kernel_rfl) (fun _ _ _ h => h) (Or.inl ⟨by rfl, ?_⟩) hHeld ?_
                  rotate_left
                  · intro w' hSw
                    go_simp
                    try with_reducible rfl
                  try simp only [Act.put, List.setIfInBounds_toArray, List.set_cons_zero, List.set_cons_succ]
                  refine wpAnyH_take (i := 3) (oi := { dst := some 83, op := Op.move (Operand.tmp 4), type := 3, pos := "wire.go:185", after := #[], guard := none }) (v := ?_) rfl (by kernel_rfl) (by kernel_rfl) (by kernel_rfl) (fun _ _ _ h => h) (Or.inl ⟨by rfl, ?_⟩) hHeld ?_
                  rotate_left
                  · intro w' hSw
                    go_simp
                    try with_reducible rfl
                  try simp only [Act.put, List.setIfInBounds_toArray, List.set_cons_zero, List.set_cons_succ]
                  refine wpAnyH_take (i := 4) (oi := { dst := some 84, op := Op.binOp BinOp.add 3 (Operand.tmp 82) (Operand.tmp 83) 3, type := 3, pos := "wire.go:185", after := #[{ on := 2, ground := Ground.data }, { on := 3, ground := Ground.data }], guard := none }) (v := ?_) rfl (by kernel_rfl) (by kernel_rfl) (by kernel_rfl) (fun _ _ _ h => h) (Or.inl ⟨by rfl, ?_⟩) hHeld ?_
                  rotate_left
                  · intro w' hSw
                    go_simp
                    try with_reducible rfl
                  try simp only [Act.put, List.setIfInBounds_toArray, List.set_cons_zero, List.set_cons_succ]
                  refine wpAnyH_take (i := 5) (oi := { dst := some 85, op := Op.move (Operand.tmp 0), type := 67, pos := "wire.go:185", after := #[], guard := none }) (v := ?_) rfl (by kernel_rfl) (by kernel_rfl) (by kernel_rfl) (fun _ _ _ h => h) (Or.inl ⟨by rfl, ?_⟩) hHeld ?_
                  rotate_left
                  · intro w' hSw
                    go_simp
                    try with_reducible rfl
                  try simp only [Act.put, List.setIfInBounds_toArray, List.set_cons_zero, List.set_cons_succ]
                  refine wpAnyH_take (i := 7) (oi := { dst := some 87, op := Op.move (Operand.tmp 0), type := 67, pos := "wire.go:185", after := #[], guard := none }) (v := ?_) rfl (by kernel_rfl) (by kernel_rfl) (by kernel_rfl) (fun _ _ _ h => h) (Or.inl ⟨by rfl, ?_⟩) hHeld ?_
                  rotate_left
                  · intro w' hSw
                    go_simp
                    try with_reducible rfl
                  try simp only [Act.put, List.setIfInBounds_toArray, List.set_cons_zero, List.set_cons_succ]
                  refine wpAnyH_ready (rs := [6, 10]) (by kernel_rfl) (by simp) ?_
                  refine AllReadyH.cons (o := { dst := some 86, op := Op.call { callee := Callee.value (Operand.func 48), args := #[Operand.tmp 85, Operand.const (Value.int IntKind.i64 999999)], argTypes := #[67, 3] }, type := 3, pos := "wire.go:185", after := #[{ on := 5, ground := Ground.data }], guard := none }) rfl (fun K hK => ?_) (AllReadyH.cons (o := { dst := some 5, op := Op.alloc 45, type := 0, pos := "wire.go:185", after := #[], guard := none }) rfl (fun K hK => ?_) AllReadyH.nil)
                  · go_simp
                    refine (number_any B r bv l kk 999999 (by omega) _ (HRr.out.mod (Mod.refl _ wr).drew)).mono ?_
                    intro e wa hR
                    cases hwa : nb l kk 999999 with
                    | error p =>
                      rw [hwa] at hR
                      obtain ⟨rfl, hm⟩ := hR
                      have HMe := Lib.hid (md_r HMr.out (md_r hHeld hm))
                      have HEe := Lib.hid (HS1.out _ hwa)
                      clear hm hK
                      go_wp2_with (fail)
                      refine ⟨rfl, ?_⟩
                      rw [HEe.out]
                      exact ⟨rfl, HMe.out⟩
                    | ok x =>
                      obtain ⟨tm1, k5⟩ := x
                      rw [hwa] at hR
                      obtain ⟨rfl, hrwa, hmwa⟩ := hR
                      have hMwa := md_r hHeld hmwa
                      go_simp
                      refine hK.out _ _ hMwa (fun hHeld => ?_)
                      clear hK K
                      try simp only [Act.put, List.setIfInBounds_toArray, List.set_cons_zero, List.set_cons_succ]
                      have h1 := hwa
                      refine wpAnyH_ready (rs := [8, 10]) (by kernel_rfl) (by simp) ?_
                      refine AllReadyH.cons (o := { dst := some 88, op := Op.call { callee := Callee.value (Operand.func 48), args := #[Operand.tmp 87, Operand.const (Value.int IntKind.i64 2)], argTypes := #[67, 3] }, type := 3, pos := "wire.go:185", after := #[{ on := 7, ground := Ground.data }, { on := 6, ground := Ground.chain }], guard := none }) rfl (fun K hK => ?_) (AllReadyH.cons (o := { dst := some 5, op := Op.alloc 45, type := 0, pos := "wire.go:185", after := #[], guard := none }) rfl (fun K hK => ?_) AllReadyH.nil)
                      · go_simp
                        refine (number_any B r bv l k5 2 (by omega) _ hrwa).mono ?_
                        intro e wb hR
                        cases hwb : nb l k5 2 with
                        | error p =>
                          rw [hwb] at hR
                          obtain ⟨rfl, hm⟩ := hR
                          have HMe := Lib.hid (md_r HMr.out (md_r hHeld hm))
                          have HEe := Lib.hid (HS2.out _ _ _ h1 hwb)
                          clear hm hK
                          go_wp2_with (fail)
                          refine ⟨rfl, ?_⟩
                          rw [HEe.out]
                          exact ⟨rfl, HMe.out⟩
                        | ok x =>
                          obtain ⟨kd, k6⟩ := x
                          rw [hwb] at hR
                          obtain ⟨rfl, hrwb, hmwb⟩ := hR
                          have hMwb := md_r hHeld hmwb
                          go_simp
                          refine hK.out _ _ hMwb (fun hHeld => ?_)
                          clear hK K
                          try simp only [Act.put, List.setIfInBounds_toArray, List.set_cons_zero, List.set_cons_succ]
                          have h2 := hwb
                          refine wpAnyH_take (i := 9) (oi := { dst := some 89, op := Op.build 45 #[(0, Operand.tmp 84), (1, Operand.tmp 86), (2, Operand.tmp 88)], type := 45, pos := "wire.go:185", after := #[{ on := 4, ground := Ground.data }, { on := 6, ground := Ground.data }, { on := 8, ground := Ground.data }], guard := none }) (v := ?_) rfl (by kernel_rfl) (by kernel_rfl) (by kernel_rfl) (fun _ _ _ h => h) (Or.inl ⟨by rfl, ?_⟩) hHeld ?_
                          rotate_left
                          · intro w' hSw
                            go_simp
                            try with_reducible rfl
                          try simp only [Act.put, List.setIfInBounds_toArray, List.set_cons_zero, List.set_cons_succ]
                          refine wpAnyH_ready (rs := [10]) (by kernel_rfl) (by simp) ?_
                          refine AllReadyH.cons (o := { dst := some 5, op := Op.alloc 45, type := 0, pos := "wire.go:185", after := #[], guard := none }) rfl (fun K hK => ?_) ?_
                          rotate_left
                          · exact AllReadyH.nil
                          go_simp
                          have hBa : Blk ((wb.alloc (.cells #[.int .i64 0, .int .i64 0, .int .i64 0, .slice none 0 0, .slice none 0 0] 45))) wb.heap.size #[.int .i64 0, .int .i64 0, .int .i64 0, .slice none 0 0, .slice none 0 0] 45 := (Blk.new _ _ _)
                          have hRa : Rr B ((wb.alloc (.cells #[.int .i64 0, .int .i64 0, .int .i64 0, .slice none 0 0, .slice none 0 0] 45))) r bv l k6 := (hrwb.of_alloc _)
                          have hMa : Mod (· = r) wr ((wb.alloc (.cells #[.int .i64 0, .int .i64 0, .int .i64 0, .slice none 0 0, .slice none 0 0] 45))) := hHeld.alloc _
                          obtain ⟨E, hEq⟩ : ∃ E, wb.heap.size = E := ⟨_, rfl⟩
                          have hLa : wr.heap.size ≤ E := by rw [← hEq]; exact hHeld.size
                          obtain ⟨we, hwq⟩ : ∃ x, ((wb.alloc (.cells #[.int .i64 0, .int .i64 0, .int .i64 0, .slice none 0 0, .slice none 0 0] 45))) = x := ⟨_, rfl⟩
                          rw [hEq, hwq] at hBa
                          rw [hwq] at hRa hMa
                          simp only [hEq, hwq]
                          refine hK.out _ _ hMa (fun hHeld => ?_)
                          clear hK K hwq
                          try simp only [Act.put, List.setIfInBounds_toArray, List.set_cons_zero, List.set_cons_succ]
                          refine wpAnyH_ready (rs := [11]) (by kernel_rfl) (by simp) ?_
                          refine AllReadyH.cons (o := { dst := none, op := Op.store 45 (Operand.tmp 5) (Operand.tmp 89), type := 0, pos := "wire.go:185", after := #[{ on := 10, ground := Ground.data }, { on := 9, ground := Ground.data }, { on := 8, ground := Ground.chain }, { on := 0, ground := Ground.phase }, { on := 1, ground := Ground.phase }, { on := 2, ground := Ground.phase }, { on := 3, ground := Ground.phase }, { on := 4, ground := Ground.phase }, { on := 5, ground := Ground.phase }, { on := 6, ground := Ground.phase }, { on := 7, ground := Ground.phase }, { on := 8, ground := Ground.phase }, { on := 9, ground := Ground.phase }, { on := 10, ground := Ground.phase }], guard := none }) rfl (fun K hK => ?_) ?_
                          rotate_left
                          · exact AllReadyH.nil
                          have c0 := hBa.cell 0
                          have zc0 := hBa.frozen 0
                          have c1 := hBa.cell 1
                          have zc1 := hBa.frozen 1
                          have c2 := hBa.cell 2
                          have zc2 := hBa.frozen 2
                          have c3 := hBa.cell 3
                          have zc3 := hBa.frozen 3
                          have c4 := hBa.cell 4
                          have zc4 := hBa.frozen 4
                          go_simp
                          have hMs : Mod (· = r) wr (((((we.setCell ⟨E, 0, none⟩ (.int .i64 (ix + 1 + i : Int))).setCell ⟨E, 1, none⟩ (.int .i64 (tm1 : Int))).setCell ⟨E, 2, none⟩ (.int .i64 (kd : Int))).setCell ⟨E, 3, none⟩ (.slice none 0 0)).setCell ⟨E, 4, none⟩ (.slice none 0 0)) := (Mod.setCell (S := (· = r)) (Mod.setCell (S := (· = r)) (Mod.setCell (S := (· = r)) (Mod.setCell (S := (· = r)) (Mod.setCell (S := (· = r)) hHeld (p := ⟨E, 0, none⟩) (.inr hLa) _) (p := ⟨E, 1, none⟩) (.inr hLa) _) (p := ⟨E, 2, none⟩) (.inr hLa) _) (p := ⟨E, 3, none⟩) (.inr hLa) _) (p := ⟨E, 4, none⟩) (.inr hLa) _)
                          have hQs : Mod (· = E) we (((((we.setCell ⟨E, 0, none⟩ (.int .i64 (ix + 1 + i : Int))).setCell ⟨E, 1, none⟩ (.int .i64 (tm1 : Int))).setCell ⟨E, 2, none⟩ (.int .i64 (kd : Int))).setCell ⟨E, 3, none⟩ (.slice none 0 0)).setCell ⟨E, 4, none⟩ (.slice none 0 0)) := (Mod.setCell (S := (· = E)) (Mod.setCell (S := (· = E)) (Mod.setCell (S := (· = E)) (Mod.setCell (S := (· = E)) (Mod.setCell (S := (· = E)) (Mod.refl (· = E) we) (p := ⟨E, 0, none⟩) (.inl rfl) _) (p := ⟨E, 1, none⟩) (.inl rfl) _) (p := ⟨E, 2, none⟩) (.inl rfl) _) (p := ⟨E, 3, none⟩) (.inl rfl) _) (p := ⟨E, 4, none⟩) (.inl rfl) _)
                          have hBs : Blk (((((we.setCell ⟨E, 0, none⟩ (.int .i64 (ix + 1 + i : Int))).setCell ⟨E, 1, none⟩ (.int .i64 (tm1 : Int))).setCell ⟨E, 2, none⟩ (.int .i64 (kd : Int))).setCell ⟨E, 3, none⟩ (.slice none 0 0)).setCell ⟨E, 4, none⟩ (.slice none 0 0)) E #[.int .i64 (ix + 1 + i : Int), .int .i64 (tm1 : Int), .int .i64 (kd : Int), .slice none 0 0, .slice none 0 0] 45 := set5e hBa _ _ _ _ _
                          have hRs : Rr B (((((we.setCell ⟨E, 0, none⟩ (.int .i64 (ix + 1 + i : Int))).setCell ⟨E, 1, none⟩ (.int .i64 (tm1 : Int))).setCell ⟨E, 2, none⟩ (.int .i64 (kd : Int))).setCell ⟨E, 3, none⟩ (.slice none 0 0)).setCell ⟨E, 4, none⟩ (.slice none 0 0)) r bv l k6 := hRa.keep hQs (fun b hb => by have := HRr.out.2.2.2.2.2.2; omega)
                          refine hK.out _ _ hMs (fun hHeld => ?_)
                          clear hK K
                          try simp only [Act.put, List.setIfInBounds_toArray, List.set_cons_zero, List.set_cons_succ]
                          refine wpAnyH_done (by kernel_rfl) ?_ _
                          go_wp2_with (fail)
                          go_meet
                          case rel => exact ⟨tm1, k5, kd, k6, E, rfl, h1, h2, Lib.hid hRs, Lib.hid hMs, Lib.hid hLa, Lib.hid hBs⟩
                      · go_simp
                        have hBa : Blk ((wa.alloc (.cells #[.int .i64 0, .int .i64 0, .int .i64 0, .slice none 0 0, .slice none 0 0] 45))) wa.heap.size #[.int .i64 0, .int .i64 0, .int .i64 0, .slice none 0 0, .slice none 0 0] 45 := (Blk.new _ _ _)
                        have hRa : Rr B ((wa.alloc (.cells #[.int .i64 0, .int .i64 0, .int .i64 0, .slice none 0 0, .slice none 0 0] 45))) r bv l k5 := (hrwa.of_alloc _)
                        have hMa : Mod (· = r) wr ((wa.alloc (.cells #[.int .i64 0, .int .i64 0, .int .i64 0, .slice none 0 0, .slice none 0 0] 45))) := hHeld.alloc _
                        obtain ⟨E, hEq⟩ : ∃ E, wa.heap.size = E := ⟨_, rfl⟩
                        have hLa : wr.heap.size ≤ E := by rw [← hEq]; exact hHeld.size
                        obtain ⟨we, hwq⟩ : ∃ x, ((wa.alloc (.cells #[.int .i64 0, .int .i64 0, .int .i64 0, .slice none 0 0, .slice none 0 0] 45))) = x := ⟨_, rfl⟩
                        rw [hEq, hwq] at hBa
                        rw [hwq] at hRa hMa
                        simp only [hEq, hwq]
                        refine hK.out _ _ hMa (fun hHeld => ?_)
                        clear hK K hwq
                        try simp only [Act.put, List.setIfInBounds_toArray, List.set_cons_zero, List.set_cons_succ]
                        refine wpAnyH_ready (rs := [8]) (by kernel_rfl) (by simp) ?_
                        refine AllReadyH.cons (o := { dst := some 88, op := Op.call { callee := Callee.value (Operand.func 48), args := #[Operand.tmp 87, Operand.const (Value.int IntKind.i64 2)], argTypes := #[67, 3] }, type := 3, pos := "wire.go:185", after := #[{ on := 7, ground := Ground.data }, { on := 6, ground := Ground.chain }], guard := none }) rfl (fun K hK => ?_) ?_
                        rotate_left
                        · exact AllReadyH.nil
                        go_simp
                        refine (number_any B r bv l k5 2 (by omega) _ hRa).mono ?_
                        intro e wb hR
                        cases hwb : nb l k5 2 with
                        | error p =>
                          rw [hwb] at hR
                          obtain ⟨rfl, hm⟩ := hR
                          have HMe := Lib.hid (md_r HMr.out (md_r hHeld hm))
                          have HEe := Lib.hid (HS2.out _ _ _ h1 hwb)
                          clear hm hK
                          go_wp2_with (fail)
                          refine ⟨rfl, ?_⟩
                          rw [HEe.out]
                          exact ⟨rfl, HMe.out⟩
                        | ok x =>
                          obtain ⟨kd, k6⟩ := x
                          rw [hwb] at hR
                          obtain ⟨rfl, hrwb, hmwb⟩ := hR
                          have hMwb := md_r hHeld hmwb
                          go_simp
                          refine hK.out _ _ hMwb (fun hHeld => ?_)
                          clear hK K
                          try simp only [Act.put, List.setIfInBounds_toArray, List.set_cons_zero, List.set_cons_succ]
                          have h2 := hwb
                          refine wpAnyH_take (i := 9) (oi := { dst := some 89, op := Op.build 45 #[(0, Operand.tmp 84), (1, Operand.tmp 86), (2, Operand.tmp 88)], type := 45, pos := "wire.go:185", after := #[{ on := 4, ground := Ground.data }, { on := 6, ground := Ground.data }, { on := 8, ground := Ground.data }], guard := none }) (v := ?_) rfl (by kernel_rfl) (by kernel_rfl) (by kernel_rfl) (fun _ _ _ h => h) (Or.inl ⟨by rfl, ?_⟩) hHeld ?_
                          rotate_left
                          · intro w' hSw
                            go_simp
                            try with_reducible rfl
                          try simp only [Act.put, List.setIfInBounds_toArray, List.set_cons_zero, List.set_cons_succ]
                          refine wpAnyH_ready (rs := [11]) (by kernel_rfl) (by simp) ?_
                          refine AllReadyH.cons (o := { dst := none, op := Op.store 45 (Operand.tmp 5) (Operand.tmp 89), type := 0, pos := "wire.go:185", after := #[{ on := 10, ground := Ground.data }, { on := 9, ground := Ground.data }, { on := 8, ground := Ground.chain }, { on := 0, ground := Ground.phase }, { on := 1, ground := Ground.phase }, { on := 2, ground := Ground.phase }, { on := 3, ground := Ground.phase }, { on := 4, ground := Ground.phase }, { on := 5, ground := Ground.phase }, { on := 6, ground := Ground.phase }, { on := 7, ground := Ground.phase }, { on := 8, ground := Ground.phase }, { on := 9, ground := Ground.phase }, { on := 10, ground := Ground.phase }], guard := none }) rfl (fun K hK => ?_) ?_
                          rotate_left
                          · exact AllReadyH.nil
                          have c0 := (hBa.mod hmwb (by have := HRr.out.1.lt; omega)).cell 0
                          have zc0 := (hBa.mod hmwb (by have := HRr.out.1.lt; omega)).frozen 0
                          have c1 := (hBa.mod hmwb (by have := HRr.out.1.lt; omega)).cell 1
                          have zc1 := (hBa.mod hmwb (by have := HRr.out.1.lt; omega)).frozen 1
                          have c2 := (hBa.mod hmwb (by have := HRr.out.1.lt; omega)).cell 2
                          have zc2 := (hBa.mod hmwb (by have := HRr.out.1.lt; omega)).frozen 2
                          have c3 := (hBa.mod hmwb (by have := HRr.out.1.lt; omega)).cell 3
                          have zc3 := (hBa.mod hmwb (by have := HRr.out.1.lt; omega)).frozen 3
                          have c4 := (hBa.mod hmwb (by have := HRr.out.1.lt; omega)).cell 4
                          have zc4 := (hBa.mod hmwb (by have := HRr.out.1.lt; omega)).frozen 4
                          go_simp
                          have hMs : Mod (· = r) wr (((((wb.setCell ⟨E, 0, none⟩ (.int .i64 (ix + 1 + i : Int))).setCell ⟨E, 1, none⟩ (.int .i64 (tm1 : Int))).setCell ⟨E, 2, none⟩ (.int .i64 (kd : Int))).setCell ⟨E, 3, none⟩ (.slice none 0 0)).setCell ⟨E, 4, none⟩ (.slice none 0 0)) := (Mod.setCell (S := (· = r)) (Mod.setCell (S := (· = r)) (Mod.setCell (S := (· = r)) (Mod.setCell (S := (· = r)) (Mod.setCell (S := (· = r)) hHeld (p := ⟨E, 0, none⟩) (.inr hLa) _) (p := ⟨E, 1, none⟩) (.inr hLa) _) (p := ⟨E, 2, none⟩) (.inr hLa) _) (p := ⟨E, 3, none⟩) (.inr hLa) _) (p := ⟨E, 4, none⟩) (.inr hLa) _)
                          have hQs : Mod (· = E) wb (((((wb.setCell ⟨E, 0, none⟩ (.int .i64 (ix + 1 + i : Int))).setCell ⟨E, 1, none⟩ (.int .i64 (tm1 : Int))).setCell ⟨E, 2, none⟩ (.int .i64 (kd : Int))).setCell ⟨E, 3, none⟩ (.slice none 0 0)).setCell ⟨E, 4, none⟩ (.slice none 0 0)) := (Mod.setCell (S := (· = E)) (Mod.setCell (S := (· = E)) (Mod.setCell (S := (· = E)) (Mod.setCell (S := (· = E)) (Mod.setCell (S := (· = E)) (Mod.refl (· = E) wb) (p := ⟨E, 0, none⟩) (.inl rfl) _) (p := ⟨E, 1, none⟩) (.inl rfl) _) (p := ⟨E, 2, none⟩) (.inl rfl) _) (p := ⟨E, 3, none⟩) (.inl rfl) _) (p := ⟨E, 4, none⟩) (.inl rfl) _)
                          have hBs : Blk (((((wb.setCell ⟨E, 0, none⟩ (.int .i64 (ix + 1 + i : Int))).setCell ⟨E, 1, none⟩ (.int .i64 (tm1 : Int))).setCell ⟨E, 2, none⟩ (.int .i64 (kd : Int))).setCell ⟨E, 3, none⟩ (.slice none 0 0)).setCell ⟨E, 4, none⟩ (.slice none 0 0)) E #[.int .i64 (ix + 1 + i : Int), .int .i64 (tm1 : Int), .int .i64 (kd : Int), .slice none 0 0, .slice none 0 0] 45 := set5e (hBa.mod hmwb (by have := HRr.out.1.lt; omega)) _ _ _ _ _
                          have hRs : Rr B (((((wb.setCell ⟨E, 0, none⟩ (.int .i64 (ix + 1 + i : Int))).setCell ⟨E, 1, none⟩ (.int .i64 (tm1 : Int))).setCell ⟨E, 2, none⟩ (.int .i64 (kd : Int))).setCell ⟨E, 3, none⟩ (.slice none 0 0)).setCell ⟨E, 4, none⟩ (.slice none 0 0)) r bv l k6 := hrwb.keep hQs (fun b hb => by have := HRr.out.2.2.2.2.2.2; omega)
                          refine hK.out _ _ hMs (fun hHeld => ?_)
                          clear hK K
                          try simp only [Act.put, List.setIfInBounds_toArray, List.set_cons_zero, List.set_cons_succ]
                          refine wpAnyH_done (by kernel_rfl) ?_ _
                          go_wp2_with (fail)
                          go_meet
                          case rel => exact ⟨tm1, k5, kd, k6, E, rfl, h1, h2, Lib.hid hRs, Lib.hid hMs, Lib.hid hLa, Lib.hid hBs⟩
                  · go_simp
                    have hBa : Blk ((wr.alloc (.cells #[.int .i64 0, .int .i64 0, .int .i64 0, .slice none 0 0, .slice none 0 0] 45)).drew) wr.heap.size #[.int .i64 0, .int .i64 0, .int .i64 0, .slice none 0 0, .slice none 0 0] 45 := (Blk.new _ _ _).drew
                    have hRa : Rr B ((wr.alloc (.cells #[.int .i64 0, .int .i64 0, .int .i64 0, .slice none 0 0, .slice none 0 0] 45)).drew) r bv l kk := ((HRr.out.of_alloc _).mod (Mod.refl _ _).drew)
                    have hMa : Mod (· = r) wr ((wr.alloc (.cells #[.int .i64 0, .int .i64 0, .int .i64 0, .slice none 0 0, .slice none 0 0] 45)).drew) := ((Mod.refl _ wr).alloc _).drew
                    obtain ⟨E, hEq⟩ : ∃ E, wr.heap.size = E := ⟨_, rfl⟩
                    have hLa : wr.heap.size ≤ E := by rw [← hEq]; exact Nat.le_refl _
                    obtain ⟨we, hwq⟩ : ∃ x, ((wr.alloc (.cells #[.int .i64 0, .int .i64 0, .int .i64 0, .slice none 0 0, .slice none 0 0] 45)).drew) = x := ⟨_, rfl⟩
                    rw [hEq, hwq] at hBa
                    rw [hwq] at hRa hMa
                    simp only [hEq, hwq]
                    refine hK.out _ _ hMa (fun hHeld => ?_)
                    clear hK K hwq
                    try simp only [Act.put, List.setIfInBounds_toArray, List.set_cons_zero, List.set_cons_succ]
                    refine wpAnyH_ready (rs := [6]) (by kernel_rfl) (by simp) ?_
                    refine AllReadyH.cons (o := { dst := some 86, op := Op.call { callee := Callee.value (Operand.func 48), args := #[Operand.tmp 85, Operand.const (Value.int IntKind.i64 999999)], argTypes := #[67, 3] }, type := 3, pos := "wire.go:185", after := #[{ on := 5, ground := Ground.data }], guard := none }) rfl (fun K hK => ?_) ?_
                    rotate_left
                    · exact AllReadyH.nil
                    go_simp
                    refine (number_any B r bv l kk 999999 (by omega) _ hRa).mono ?_
                    intro e wa hR
                    cases hwa : nb l kk 999999 with
                    | error p =>
                      rw [hwa] at hR
                      obtain ⟨rfl, hm⟩ := hR
                      have HMe := Lib.hid (md_r HMr.out (md_r hHeld hm))
                      have HEe := Lib.hid (HS1.out _ hwa)
                      clear hm hK
                      go_wp2_with (fail)
                      refine ⟨rfl, ?_⟩
                      rw [HEe.out]
                      exact ⟨rfl, HMe.out⟩
                    | ok x =>
                      obtain ⟨tm1, k5⟩ := x
                      rw [hwa] at hR
                      obtain ⟨rfl, hrwa, hmwa⟩ := hR
                      have hMwa := md_r hHeld hmwa
                      go_simp
                      refine hK.out _ _ hMwa (fun hHeld => ?_)
                      clear hK K
                      try simp only [Act.put, List.setIfInBounds_toArray, List.set_cons_zero, List.set_cons_succ]
                      have h1 := hwa
                      refine wpAnyH_ready (rs := [8]) (by kernel_rfl) (by simp) ?_
                      refine AllReadyH.cons (o := { dst := some 88, op := Op.call { callee := Callee.value (Operand.func 48), args := #[Operand.tmp 87, Operand.const (Value.int IntKind.i64 2)], argTypes := #[67, 3] }, type := 3, pos := "wire.go:185", after := #[{ on := 7, ground := Ground.data }, { on := 6, ground := Ground.chain }], guard := none }) rfl (fun K hK => ?_) ?_
                      rotate_left
                      · exact AllReadyH.nil
                      go_simp
                      refine (number_any B r bv l k5 2 (by omega) _ hrwa).mono ?_
                      intro e wb hR
                      cases hwb : nb l k5 2 with
                      | error p =>
                        rw [hwb] at hR
                        obtain ⟨rfl, hm⟩ := hR
                        have HMe := Lib.hid (md_r HMr.out (md_r hHeld hm))
                        have HEe := Lib.hid (HS2.out _ _ _ h1 hwb)
                        clear hm hK
                        go_wp2_with (fail)
                        refine ⟨rfl, ?_⟩
                        rw [HEe.out]
                        exact ⟨rfl, HMe.out⟩
                      | ok x =>
                        obtain ⟨kd, k6⟩ := x
                        rw [hwb] at hR
                        obtain ⟨rfl, hrwb, hmwb⟩ := hR
                        have hMwb := md_r hHeld hmwb
                        go_simp
                        refine hK.out _ _ hMwb (fun hHeld => ?_)
                        clear hK K
                        try simp only [Act.put, List.setIfInBounds_toArray, List.set_cons_zero, List.set_cons_succ]
                        have h2 := hwb
                        refine wpAnyH_take (i := 9) (oi := { dst := some 89, op := Op.build 45 #[(0, Operand.tmp 84), (1, Operand.tmp 86), (2, Operand.tmp 88)], type := 45, pos := "wire.go:185", after := #[{ on := 4, ground := Ground.data }, { on := 6, ground := Ground.data }, { on := 8, ground := Ground.data }], guard := none }) (v := ?_) rfl (by kernel_rfl) (by kernel_rfl) (by kernel_rfl) (fun _ _ _ h => h) (Or.inl ⟨by rfl, ?_⟩) hHeld ?_
                        rotate_left
                        · intro w' hSw
                          go_simp
                          try with_reducible rfl
                        try simp only [Act.put, List.setIfInBounds_toArray, List.set_cons_zero, List.set_cons_succ]
                        refine wpAnyH_ready (rs := [11]) (by kernel_rfl) (by simp) ?_
                        refine AllReadyH.cons (o := { dst := none, op := Op.store 45 (Operand.tmp 5) (Operand.tmp 89), type := 0, pos := "wire.go:185", after := #[{ on := 10, ground := Ground.data }, { on := 9, ground := Ground.data }, { on := 8, ground := Ground.chain }, { on := 0, ground := Ground.phase }, { on := 1, ground := Ground.phase }, { on := 2, ground := Ground.phase }, { on := 3, ground := Ground.phase }, { on := 4, ground := Ground.phase }, { on := 5, ground := Ground.phase }, { on := 6, ground := Ground.phase }, { on := 7, ground := Ground.phase }, { on := 8, ground := Ground.phase }, { on := 9, ground := Ground.phase }, { on := 10, ground := Ground.phase }], guard := none }) rfl (fun K hK => ?_) ?_
                        rotate_left
                        · exact AllReadyH.nil
                        have c0 := ((hBa.mod hmwa (by have := HRr.out.1.lt; omega)).mod hmwb (by have := HRr.out.1.lt; omega)).cell 0
                        have zc0 := ((hBa.mod hmwa (by have := HRr.out.1.lt; omega)).mod hmwb (by have := HRr.out.1.lt; omega)).frozen 0
                        have c1 := ((hBa.mod hmwa (by have := HRr.out.1.lt; omega)).mod hmwb (by have := HRr.out.1.lt; omega)).cell 1
                        have zc1 := ((hBa.mod hmwa (by have := HRr.out.1.lt; omega)).mod hmwb (by have := HRr.out.1.lt; omega)).frozen 1
                        have c2 := ((hBa.mod hmwa (by have := HRr.out.1.lt; omega)).mod hmwb (by have := HRr.out.1.lt; omega)).cell 2
                        have zc2 := ((hBa.mod hmwa (by have := HRr.out.1.lt; omega)).mod hmwb (by have := HRr.out.1.lt; omega)).frozen 2
                        have c3 := ((hBa.mod hmwa (by have := HRr.out.1.lt; omega)).mod hmwb (by have := HRr.out.1.lt; omega)).cell 3
                        have zc3 := ((hBa.mod hmwa (by have := HRr.out.1.lt; omega)).mod hmwb (by have := HRr.out.1.lt; omega)).frozen 3
                        have c4 := ((hBa.mod hmwa (by have := HRr.out.1.lt; omega)).mod hmwb (by have := HRr.out.1.lt; omega)).cell 4
                        have zc4 := ((hBa.mod hmwa (by have := HRr.out.1.lt; omega)).mod hmwb (by have := HRr.out.1.lt; omega)).frozen 4
                        go_simp
                        have hMs : Mod (· = r) wr (((((wb.setCell ⟨E, 0, none⟩ (.int .i64 (ix + 1 + i : Int))).setCell ⟨E, 1, none⟩ (.int .i64 (tm1 : Int))).setCell ⟨E, 2, none⟩ (.int .i64 (kd : Int))).setCell ⟨E, 3, none⟩ (.slice none 0 0)).setCell ⟨E, 4, none⟩ (.slice none 0 0)) := (Mod.setCell (S := (· = r)) (Mod.setCell (S := (· = r)) (Mod.setCell (S := (· = r)) (Mod.setCell (S := (· = r)) (Mod.setCell (S := (· = r)) hHeld (p := ⟨E, 0, none⟩) (.inr hLa) _) (p := ⟨E, 1, none⟩) (.inr hLa) _) (p := ⟨E, 2, none⟩) (.inr hLa) _) (p := ⟨E, 3, none⟩) (.inr hLa) _) (p := ⟨E, 4, none⟩) (.inr hLa) _)
                        have hQs : Mod (· = E) wb (((((wb.setCell ⟨E, 0, none⟩ (.int .i64 (ix + 1 + i : Int))).setCell ⟨E, 1, none⟩ (.int .i64 (tm1 : Int))).setCell ⟨E, 2, none⟩ (.int .i64 (kd : Int))).setCell ⟨E, 3, none⟩ (.slice none 0 0)).setCell ⟨E, 4, none⟩ (.slice none 0 0)) := (Mod.setCell (S := (· = E)) (Mod.setCell (S := (· = E)) (Mod.setCell (S := (· = E)) (Mod.setCell (S := (· = E)) (Mod.setCell (S := (· = E)) (Mod.refl (· = E) wb) (p := ⟨E, 0, none⟩) (.inl rfl) _) (p := ⟨E, 1, none⟩) (.inl rfl) _) (p := ⟨E, 2, none⟩) (.inl rfl) _) (p := ⟨E, 3, none⟩) (.inl rfl) _) (p := ⟨E, 4, none⟩) (.inl rfl) _)
                        have hBs : Blk (((((wb.setCell ⟨E, 0, none⟩ (.int .i64 (ix + 1 + i : Int))).setCell ⟨E, 1, none⟩ (.int .i64 (tm1 : Int))).setCell ⟨E, 2, none⟩ (.int .i64 (kd : Int))).setCell ⟨E, 3, none⟩ (.slice none 0 0)).setCell ⟨E, 4, none⟩ (.slice none 0 0)) E #[.int .i64 (ix + 1 + i : Int), .int .i64 (tm1 : Int), .int .i64 (kd : Int), .slice none 0 0, .slice none 0 0] 45 := set5e ((hBa.mod hmwa (by have := HRr.out.1.lt; omega)).mod hmwb (by have := HRr.out.1.lt; omega)) _ _ _ _ _
                        have hRs : Rr B (((((wb.setCell ⟨E, 0, none⟩ (.int .i64 (ix + 1 + i : Int))).setCell ⟨E, 1, none⟩ (.int .i64 (tm1 : Int))).setCell ⟨E, 2, none⟩ (.int .i64 (kd : Int))).setCell ⟨E, 3, none⟩ (.slice none 0 0)).setCell ⟨E, 4, none⟩ (.slice none 0 0)) r bv l k6 := hrwb.keep hQs (fun b hb => by have := HRr.out.2.2.2.2.2.2; omega)
                        refine hK.out _ _ hMs (fun hHeld => ?_)
                        clear hK K
                        try simp only [Act.put, List.setIfInBounds_toArray, List.set_cons_zero, List.set_cons_succ]
                        refine wpAnyH_done (by kernel_rfl) ?_ _
                        go_wp2_with (fail)
                        go_meet
                        case rel => exact ⟨tm1, k5, kd, k6, E, rfl, h1, h2, Lib.hid hRs, Lib.hid hMs, Lib.hid hLa, Lib.hid hBs⟩
                case rest =>
                  obtain ⟨tm1, k5, kd, k6, E, rfl, h1, h2, HR2, HM2, HE2, HB2⟩ := hcut
                  have hkd : kd = 0 ∨ kd = 1 ∨ kd = 2 := by have := (nb_le (by first | exact (nb_le HRr.out.2.2.2.1 h1).2.2) h2).1; omega
                  have q0 : wc.cell? ⟨E, 2, none⟩ = some (.int .i64 (kd : Int)) := HB2.out.cell 2
                  clear hw1 hw2 HX HS1 HS2
                  rcases hkd with rfl | rfl | rfl
                  · go_upto_region 25 with (fail)
                    have HRy := HR2
                    have HMy := HM2
                    have HBy := HB2
                    clear q0
                    have hent : entR l ix i kk = .ok ((⟨(ix : Int) + 1 + i, (tm1 : Int), 0, [], []⟩ : En), k6) := by unfold entR; rw [h1, thn_ok, h2, thn_ok, if_neg (by decide), if_neg (by decide)]
                    have hE2 : entsR l ix n 0 k11 = thn (entsR l ix (n - (i + 1)) (i + 1) k6) fun es' j' => .ok ((es ++ [(⟨(ix : Int) + 1 + i, (tm1 : Int), 0, [], []⟩ : En)]) ++ es', j') := by
                      rw [hE.out, show n - i = (n - (i + 1)) + 1 by omega, entsR, hent, thn_ok]
                      cases entsR l ix (n - (i + 1)) (i + 1) k6 with
                      | error p => rfl
                      | ok y => simp [thn]
                    have hrG : r < G := HGR.out
                    have hown3 : wc.ownsRow (G + 1) 45 5 (.slice C i cb) i xs := own_mod hown.out HMy.out (fun g hg hgr => by have := (own_lt hown.out hg).1; omega)
                    have hGs : G < wc.heap.size := (HLr.out.mod HMy.out (by omega)).lt
                    obtain ⟨A2, c5, w8, hr, ho3, hmA, hnew, _⟩ := el_e.app1 (G + 1) i (.slice C i cb) xs (wc.alloc (.cells #[.int .i64 ((ix : Int) + 1 + i), .int .i64 (tm1 : Int), .int .i64 (0 : Int), .slice none 0 0, .slice none 0 0] 45)) (own_mod hown3 ((Mod.refl (fun _ => False) wc).alloc _) (fun _ _ h => h)) wc.heap.size #[.int .i64 ((ix : Int) + 1 + i), .int .i64 (tm1 : Int), .int .i64 (0 : Int), .slice none 0 0, .slice none 0 0] 1 (Blk.new _ _ _) rfl (by unfold maxLen; omega) (by omega) (by simp; try first | rfl | exact ⟨rfl, rfl, rfl, rfl⟩ | exact ⟨rfl, rfl, rfl, rfl, rfl⟩) (by simp; omega)
                    have hmF : Mod (fun _ => False) wc (wc.alloc (.cells #[.int .i64 ((ix : Int) + 1 + i), .int .i64 (tm1 : Int), .int .i64 (0 : Int), .slice none 0 0, .slice none 0 0] 45)) := (Mod.refl _ wc).alloc _
                    have hmx : Mod (fun b => (Value.slice C i cb).ownBlock = some b) wc w8 := Mod.trans (T := fun b => (Value.slice C i cb).ownBlock = some b) ((Mod.refl _ wc).alloc _) hmA (fun i hi => .inl hi)
                    have hoG : ∀ b, (Value.slice C i cb).ownBlock = some b → G < b := fun b hb => (own_lt hown3 hb).1
                    have hC8 : C5 w8 G (Value.slice A2 (i + 1) c5).ownBlock (xs ++ [.int .i64 (⟨(ix : Int) + 1 + i, (tm1 : Int), 0, [], []⟩ : En).ix, .int .i64 (⟨(ix : Int) + 1 + i, (tm1 : Int), 0, [], []⟩ : En).tm, .int .i64 (⟨(ix : Int) + 1 + i, (tm1 : Int), 0, [], []⟩ : En).kd, .slice none 0 0, .slice none 0 0]) (es ++ [(⟨(ix : Int) + 1 + i, (tm1 : Int), 0, [], []⟩ : En)]) := C5.move hmA hnew _ _ (C5.app (e := (⟨(ix : Int) + 1 + i, (tm1 : Int), 0, [], []⟩ : En)) (RdC.mod (⟨.inl ⟨rfl, rfl⟩, none, 0, rfl, Nat.le_refl _, Nat.zero_le _⟩ : RdC wc (.slice none 0 0) []) hmF) (RI.mod (.inl ⟨rfl, rfl⟩ : RI wc (.slice none 0 0) []) hmF) (fun a n c hv _ => by cases hv) (fun a n c hv _ => by cases hv) _ _ (C5.keep hmF (fun _ h => h.elim) _ _ (C5.keep HMy.out (fun b hb => .inl (by have : b = r := hb; omega)) _ _ hC.out)))
                    have hL8 : Blk w8 G #[.int .i64 (3 : Int), .int .i64 (fr : Int), .int .i64 (tt : Int), .int .i64 (tm : Int), .int .i64 (ix : Int), .int .i64 (lt : Int), .int .i64 (cm : Int), .int .i64 (rd : Int), .bool false, .slice C i cb, .int .i64 (0 : Int), .int .i64 (0 : Int), .slice none 0 0, .slice none 0 0] 28 := (HLr.out.mod HMy.out (by omega)).mod hmx (fun hb => by have := hoG _ hb; omega)
                    have q9 := hL8.cell 9
                    have zq9 := hL8.frozen 9
                    have p9 : wc.cell? ⟨G, 9, none⟩ = some (.slice C i cb) := (HLr.out.mod HMy.out (by omega)).cell 9
                    have e0 := HBy.out.cell 0
                    have e1 := HBy.out.cell 1
                    have e2 := HBy.out.cell 2
                    have e3 := HBy.out.cell 3
                    have e4 := HBy.out.cell 4
                    have hq : Mod (· = G) w8 (w8.setCell ⟨G, 9, none⟩ (.slice A2 (i + 1) c5)) := Mod.setCell (S := (· = G)) (Mod.refl _ w8) (p := ⟨G, 9, none⟩) (.inl rfl) _
                    have hBw : B ≤ w.heap.size := HBW.out
                    have hGw : w.heap.size < G := HGW.out
                    have HRz := Lib.hid ((HRy.out.keep hmx (fun b hb => by have := hoG _ hb; omega)).keep hq (fun b hb => by have : b = G := hb; omega))
                    have HMz : Hid (Mod (· = r) w (w8.setCell ⟨G, 9, none⟩ (.slice A2 (i + 1) c5))) := Lib.hid (((HMr.out.trans HMy.out (fun i hi => .inl hi)).trans hmx (fun b hb => .inr (by have := hoG _ hb; omega))).trans hq (fun b hb => .inr (by have : b = G := hb; omega)))
                    have HBz := Lib.hid (((HBr.out.mod HMy.out (by have := HRW.out; omega)).mod hmx (fun hb => by have := hoG _ hb; omega)).mod hq (fun hb => by have : w.heap.size = G := hb; omega))
                    have HLz : Hid (Blk (w8.setCell ⟨G, 9, none⟩ (.slice A2 (i + 1) c5)) G #[.int .i64 (3 : Int), .int .i64 (fr : Int), .int .i64 (tt : Int), .int .i64 (tm : Int), .int .i64 (ix : Int), .int .i64 (lt : Int), .int .i64 (cm : Int), .int .i64 (rd : Int), .bool false, .slice A2 (i + 1) c5, .int .i64 (0 : Int), .int .i64 (0 : Int), .slice none 0 0, .slice none 0 0] 28) := Lib.hid (hL8.set 9 _)
                    have HOz := Lib.hid (own_mod ho3 hq (fun g hg hb => by have h1 := (own_lt ho3 hg).1; have : g = G := hb; omega))
                    have HCz := Lib.hid (C5.keep hq (fun b hb => .inl (by have : b = G := hb; omega)) _ _ hC8)
                    have HEz := Lib.hid hE2
                    have HZ : Hid ((es ++ [(⟨(ix : Int) + 1 + i, (tm1 : Int), 0, [], []⟩ : En)]).length = i + 1) := Lib.hid (by rw [List.length_append, HEL.out]; rfl)
                    clear hent hE2 hown3 ho3 hmA hmx hmF hC8 hL8 hq hE hown hC HRr HMr HBr HLr HEL hnew h1 h2
                    go_wp2_with (at_builtin; refine wpList_append_run rfl _ _ 22 22 rfl _ _ rfl rfl hr ?_)
                    refine ⟨⟨i + 1, k6, es ++ [(⟨(ix : Int) + 1 + i, (tm1 : Int), 0, [], []⟩ : En)], _, A2, c5, by simp, by omega, HZ, HRz, HMz, HBz, HLz, HOz, HCz, HEz⟩, ?_⟩
                    simp only [iOf]
                    omega
                  · skip
                    go_wp2_with (fail)
                    refine (text_any B r bv l k6 8000 (by omega) wc HR2.out).mono ?_
                    intro e w7 hR
                    cases h7 : tb l k6 8000 with
                    | error p =>
                      rw [h7] at hR
                      obtain ⟨rfl, hm⟩ := hR
                      have HMe := Lib.hid (md_r HMr.out (md_r HM2.out hm))
                      have HEe : Hid (O = .error p) := Lib.hid (by rw [HOE.out, hE.out, show n - i = (n - (i + 1)) + 1 by omega, entsR, entR, h1, thn_ok, h2, thn_ok, if_pos rfl, h7]; rfl)
                      clear hm h1 h2 h7 hE q0
                      go_wp2_with (fail)
                      refine ⟨rfl, ?_⟩
                      rw [HEe.out]
                      exact ⟨rfl, HMe.out⟩
                    | ok x =>
                      obtain ⟨vs, k7⟩ := x
                      rw [h7] at hR
                      obtain ⟨vv, rfl, hr7, hm7, hv7, hf7⟩ := hR
                      obtain ⟨pa, ca, rfl⟩ := hv7.val
                      have hEr : ¬ E = r := by have h3 := HE2.out; have h4 := HRr.out.1.lt; omega
                      have hB7 := HB2.out.mod hm7 hEr
                      have hEs : E < wc.heap.size := HB2.out.lt
                      have hBE : B ≤ E := Nat.le_trans HRr.out.2.2.2.2.2.2 HE2.out
                      have q3 := hB7.cell 3
                      have zq3 := hB7.frozen 3
                      have hqE : Mod (· = E) w7 (w7.setCell ⟨E, 3, none⟩ (.slice pa vs.length ca)) := Mod.setCell (S := (· = E)) (Mod.refl _ w7) (p := ⟨E, 3, none⟩) (.inl rfl) _
                      have HRy := Lib.hid (hr7.keep hqE (fun b hb => by have : b = E := hb; omega))
                      have HMy : Hid (Mod (· = r) wr (w7.setCell ⟨E, 3, none⟩ (.slice pa vs.length ca))) := Lib.hid ((md_r HM2.out hm7).trans hqE (fun b hb => .inr (by have h3 := HE2.out; have : b = E := hb; omega)))
                      have HBy : Hid (Blk (w7.setCell ⟨E, 3, none⟩ (.slice pa vs.length ca)) E #[.int .i64 ((ix : Int) + 1 + i), .int .i64 (tm1 : Int), .int .i64 (1 : Int), (.slice pa vs.length ca), .slice none 0 0] 45) := Lib.hid (hB7.set 3 _)
                      have hvy : RdC (w7.setCell ⟨E, 3, none⟩ (.slice pa vs.length ca)) (.slice pa vs.length ca) vs := hv7.keep hqE (fun a n c h _ hb => by have h1 := hf7 a n c h; have : a.block = E := hb; omega)
                      have hofy : Off G (Value.slice C i cb).ownBlock (.slice pa vs.length ca) (vs ≠ []) := fun a n c h _ => by
                        have h1 := hf7 a n c h
                        have hlt1 : wr.heap.size ≤ wc.heap.size := HM2.out.size
                        refine ⟨by have := HLr.out.lt; omega, fun he => by have := (own_lt hown.out he).2; omega⟩
                      clear hr7 hm7 hv7 hf7 hB7 q0 hqE HR2 HM2 HB2
                      go_upto_region 25 with (fail)
                      obtain ⟨w9, hw9⟩ : ∃ x, w7.setCell ⟨E, 3, none⟩ (.slice pa vs.length ca) = x := ⟨_, rfl⟩
                      rw [hw9] at HRy HMy HBy hvy
                      simp only [hw9]
                      clear hw9 q3 zq3
                      have hent : entR l ix i kk = .ok ((⟨(ix : Int) + 1 + i, (tm1 : Int), 1, vs, []⟩ : En), k7) := by unfold entR; rw [h1, thn_ok, h2, thn_ok, if_pos rfl, h7]; rfl
                      have hE2 : entsR l ix n 0 k11 = thn (entsR l ix (n - (i + 1)) (i + 1) k7) fun es' j' => .ok ((es ++ [(⟨(ix : Int) + 1 + i, (tm1 : Int), 1, vs, []⟩ : En)]) ++ es', j') := by
                        rw [hE.out, show n - i = (n - (i + 1)) + 1 by omega, entsR, hent, thn_ok]
                        cases entsR l ix (n - (i + 1)) (i + 1) k7 with
                        | error p => rfl
                        | ok y => simp [thn]
                      have hrG : r < G := HGR.out
                      have hown3 : w9.ownsRow (G + 1) 45 5 (.slice C i cb) i xs := own_mod hown.out HMy.out (fun g hg hgr => by have := (own_lt hown.out hg).1; omega)
                      have hGs : G < w9.heap.size := (HLr.out.mod HMy.out (by omega)).lt
                      obtain ⟨A2, c5, w8, hr, ho3, hmA, hnew, _⟩ := el_e.app1 (G + 1) i (.slice C i cb) xs (w9.alloc (.cells #[.int .i64 ((ix : Int) + 1 + i), .int .i64 (tm1 : Int), .int .i64 (1 : Int), (.slice pa vs.length ca), .slice none 0 0] 45)) (own_mod hown3 ((Mod.refl (fun _ => False) w9).alloc _) (fun _ _ h => h)) w9.heap.size #[.int .i64 ((ix : Int) + 1 + i), .int .i64 (tm1 : Int), .int .i64 (1 : Int), (.slice pa vs.length ca), .slice none 0 0] 1 (Blk.new _ _ _) rfl (by unfold maxLen; omega) (by omega) (by simp; try first | rfl | exact ⟨rfl, rfl, rfl, rfl⟩ | exact ⟨rfl, rfl, rfl, rfl, rfl⟩) (by simp; omega)
                      have hmF : Mod (fun _ => False) w9 (w9.alloc (.cells #[.int .i64 ((ix : Int) + 1 + i), .int .i64 (tm1 : Int), .int .i64 (1 : Int), (.slice pa vs.length ca), .slice none 0 0] 45)) := (Mod.refl _ w9).alloc _
                      have hmx : Mod (fun b => (Value.slice C i cb).ownBlock = some b) w9 w8 := Mod.trans (T := fun b => (Value.slice C i cb).ownBlock = some b) ((Mod.refl _ w9).alloc _) hmA (fun i hi => .inl hi)
                      have hoG : ∀ b, (Value.slice C i cb).ownBlock = some b → G < b := fun b hb => (own_lt hown3 hb).1
                      have hC8 : C5 w8 G (Value.slice A2 (i + 1) c5).ownBlock (xs ++ [.int .i64 (⟨(ix : Int) + 1 + i, (tm1 : Int), 1, vs, []⟩ : En).ix, .int .i64 (⟨(ix : Int) + 1 + i, (tm1 : Int), 1, vs, []⟩ : En).tm, .int .i64 (⟨(ix : Int) + 1 + i, (tm1 : Int), 1, vs, []⟩ : En).kd, (.slice pa vs.length ca), .slice none 0 0]) (es ++ [(⟨(ix : Int) + 1 + i, (tm1 : Int), 1, vs, []⟩ : En)]) := C5.move hmA hnew _ _ (C5.app (e := (⟨(ix : Int) + 1 + i, (tm1 : Int), 1, vs, []⟩ : En)) (RdC.mod hvy hmF) (RI.mod (.inl ⟨rfl, rfl⟩ : RI w9 (.slice none 0 0) []) hmF) hofy (fun a n c hv _ => by cases hv) _ _ (C5.keep hmF (fun _ h => h.elim) _ _ (C5.keep HMy.out (fun b hb => .inl (by have : b = r := hb; omega)) _ _ hC.out)))
                      have hL8 : Blk w8 G #[.int .i64 (3 : Int), .int .i64 (fr : Int), .int .i64 (tt : Int), .int .i64 (tm : Int), .int .i64 (ix : Int), .int .i64 (lt : Int), .int .i64 (cm : Int), .int .i64 (rd : Int), .bool false, .slice C i cb, .int .i64 (0 : Int), .int .i64 (0 : Int), .slice none 0 0, .slice none 0 0] 28 := (HLr.out.mod HMy.out (by omega)).mod hmx (fun hb => by have := hoG _ hb; omega)
                      have q9 := hL8.cell 9
                      have zq9 := hL8.frozen 9
                      have p9 : w9.cell? ⟨G, 9, none⟩ = some (.slice C i cb) := (HLr.out.mod HMy.out (by omega)).cell 9
                      have e0 := HBy.out.cell 0
                      have e1 := HBy.out.cell 1
                      have e2 := HBy.out.cell 2
                      have e3 := HBy.out.cell 3
                      have e4 := HBy.out.cell 4
                      have hq : Mod (· = G) w8 (w8.setCell ⟨G, 9, none⟩ (.slice A2 (i + 1) c5)) := Mod.setCell (S := (· = G)) (Mod.refl _ w8) (p := ⟨G, 9, none⟩) (.inl rfl) _
                      have hBw : B ≤ w.heap.size := HBW.out
                      have hGw : w.heap.size < G := HGW.out
                      have HRz := Lib.hid ((HRy.out.keep hmx (fun b hb => by have := hoG _ hb; omega)).keep hq (fun b hb => by have : b = G := hb; omega))
                      have HMz : Hid (Mod (· = r) w (w8.setCell ⟨G, 9, none⟩ (.slice A2 (i + 1) c5))) := Lib.hid (((HMr.out.trans HMy.out (fun i hi => .inl hi)).trans hmx (fun b hb => .inr (by have := hoG _ hb; omega))).trans hq (fun b hb => .inr (by have : b = G := hb; omega)))
                      have HBz := Lib.hid (((HBr.out.mod HMy.out (by have := HRW.out; omega)).mod hmx (fun hb => by have := hoG _ hb; omega)).mod hq (fun hb => by have : w.heap.size = G := hb; omega))
                      have HLz : Hid (Blk (w8.setCell ⟨G, 9, none⟩ (.slice A2 (i + 1) c5)) G #[.int .i64 (3 : Int), .int .i64 (fr : Int), .int .i64 (tt : Int), .int .i64 (tm : Int), .int .i64 (ix : Int), .int .i64 (lt : Int), .int .i64 (cm : Int), .int .i64 (rd : Int), .bool false, .slice A2 (i + 1) c5, .int .i64 (0 : Int), .int .i64 (0 : Int), .slice none 0 0, .slice none 0 0] 28) := Lib.hid (hL8.set 9 _)
                      have HOz := Lib.hid (own_mod ho3 hq (fun g hg hb => by have h1 := (own_lt ho3 hg).1; have : g = G := hb; omega))
                      have HCz := Lib.hid (C5.keep hq (fun b hb => .inl (by have : b = G := hb; omega)) _ _ hC8)
                      have HEz := Lib.hid hE2
                      have HZ : Hid ((es ++ [(⟨(ix : Int) + 1 + i, (tm1 : Int), 1, vs, []⟩ : En)]).length = i + 1) := Lib.hid (by rw [List.length_append, HEL.out]; rfl)
                      clear hvy hofy h7 hent hE2 hown3 ho3 hmA hmx hmF hC8 hL8 hq hE hown hC HRr HMr HBr HLr HEL hnew h1 h2
                      go_wp2_with (at_builtin; refine wpList_append_run rfl _ _ 22 22 rfl _ _ rfl rfl hr ?_)
                      refine ⟨⟨i + 1, k7, es ++ [(⟨(ix : Int) + 1 + i, (tm1 : Int), 1, vs, []⟩ : En)], _, A2, c5, by simp, by omega, HZ, HRz, HMz, HBz, HLz, HOz, HCz, HEz⟩, ?_⟩
                      simp only [iOf]
                      omega
                  · skip
                    go_wp2_with (fail)
                    refine (nodes_any B r bv l k6 wc HR2.out).mono ?_
                    intro e w7 hR
                    cases h7 : nodesR l k6 with
                    | error p =>
                      rw [h7] at hR
                      obtain ⟨rfl, hm⟩ := hR
                      have HMe := Lib.hid (md_r HMr.out (md_r HM2.out hm))
                      have HEe : Hid (O = .error p) := Lib.hid (by rw [HOE.out, hE.out, show n - i = (n - (i + 1)) + 1 by omega, entsR, entR, h1, thn_ok, h2, thn_ok, if_neg (by decide), if_pos rfl, h7]; rfl)
                      clear hm h1 h2 h7 hE q0
                      go_wp2_with (fail)
                      refine ⟨rfl, ?_⟩
                      rw [HEe.out]
                      exact ⟨rfl, HMe.out⟩
                    | ok x =>
                      obtain ⟨vs, k7⟩ := x
                      rw [h7] at hR
                      obtain ⟨vv, rfl, hr7, hm7, hv7, hf7⟩ := hR
                      obtain ⟨pa, ca, rfl⟩ := hv7.val
                      have hEr : ¬ E = r := by have h3 := HE2.out; have h4 := HRr.out.1.lt; omega
                      have hB7 := HB2.out.mod hm7 hEr
                      have hEs : E < wc.heap.size := HB2.out.lt
                      have hBE : B ≤ E := Nat.le_trans HRr.out.2.2.2.2.2.2 HE2.out
                      have q3 := hB7.cell 4
                      have zq3 := hB7.frozen 4
                      have hqE : Mod (· = E) w7 (w7.setCell ⟨E, 4, none⟩ (.slice pa vs.length ca)) := Mod.setCell (S := (· = E)) (Mod.refl _ w7) (p := ⟨E, 4, none⟩) (.inl rfl) _
                      have HRy := Lib.hid (hr7.keep hqE (fun b hb => by have : b = E := hb; omega))
                      have HMy : Hid (Mod (· = r) wr (w7.setCell ⟨E, 4, none⟩ (.slice pa vs.length ca))) := Lib.hid ((md_r HM2.out hm7).trans hqE (fun b hb => .inr (by have h3 := HE2.out; have : b = E := hb; omega)))
                      have HBy : Hid (Blk (w7.setCell ⟨E, 4, none⟩ (.slice pa vs.length ca)) E #[.int .i64 ((ix : Int) + 1 + i), .int .i64 (tm1 : Int), .int .i64 (2 : Int), .slice none 0 0, (.slice pa vs.length ca)] 45) := Lib.hid (hB7.set 4 _)
                      have hvy : RI (w7.setCell ⟨E, 4, none⟩ (.slice pa vs.length ca)) (.slice pa vs.length ca) vs := hv7.keep hqE (fun a n c h hb => by have h1 := hf7 a n c h; have : a.block = E := hb; omega)
                      have hofy : Off G (Value.slice C i cb).ownBlock (.slice pa vs.length ca) (vs ≠ []) := fun a n c h _ => by
                        have h1 := hf7 a n c h
                        have hlt1 : wr.heap.size ≤ wc.heap.size := HM2.out.size
                        refine ⟨by have := HLr.out.lt; omega, fun he => by have := (own_lt hown.out he).2; omega⟩
                      clear hr7 hm7 hv7 hf7 hB7 q0 hqE HR2 HM2 HB2
                      go_upto_region 25 with (fail)
                      obtain ⟨w9, hw9⟩ : ∃ x, w7.setCell ⟨E, 4, none⟩ (.slice pa vs.length ca) = x := ⟨_, rfl⟩
                      rw [hw9] at HRy HMy HBy hvy
                      simp only [hw9]
                      clear hw9 q3 zq3
                      have hent : entR l ix i kk = .ok ((⟨(ix : Int) + 1 + i, (tm1 : Int), 2, [], vs⟩ : En), k7) := by unfold entR; rw [h1, thn_ok, h2, thn_ok, if_neg (by decide), if_pos rfl, h7]; rfl
                      have hE2 : entsR l ix n 0 k11 = thn (entsR l ix (n - (i + 1)) (i + 1) k7) fun es' j' => .ok ((es ++ [(⟨(ix : Int) + 1 + i, (tm1 : Int), 2, [], vs⟩ : En)]) ++ es', j') := by
                        rw [hE.out, show n - i = (n - (i + 1)) + 1 by omega, entsR, hent, thn_ok]
                        cases entsR l ix (n - (i + 1)) (i + 1) k7 with
                        | error p => rfl
                        | ok y => simp [thn]
                      have hrG : r < G := HGR.out
                      have hown3 : w9.ownsRow (G + 1) 45 5 (.slice C i cb) i xs := own_mod hown.out HMy.out (fun g hg hgr => by have := (own_lt hown.out hg).1; omega)
                      have hGs : G < w9.heap.size := (HLr.out.mod HMy.out (by omega)).lt
                      obtain ⟨A2, c5, w8, hr, ho3, hmA, hnew, _⟩ := el_e.app1 (G + 1) i (.slice C i cb) xs (w9.alloc (.cells #[.int .i64 ((ix : Int) + 1 + i), .int .i64 (tm1 : Int), .int .i64 (2 : Int), .slice none 0 0, (.slice pa vs.length ca)] 45)) (own_mod hown3 ((Mod.refl (fun _ => False) w9).alloc _) (fun _ _ h => h)) w9.heap.size #[.int .i64 ((ix : Int) + 1 + i), .int .i64 (tm1 : Int), .int .i64 (2 : Int), .slice none 0 0, (.slice pa vs.length ca)] 1 (Blk.new _ _ _) rfl (by unfold maxLen; omega) (by omega) (by simp; try first | rfl | exact ⟨rfl, rfl, rfl, rfl⟩ | exact ⟨rfl, rfl, rfl, rfl, rfl⟩) (by simp; omega)
                      have hmF : Mod (fun _ => False) w9 (w9.alloc (.cells #[.int .i64 ((ix : Int) + 1 + i), .int .i64 (tm1 : Int), .int .i64 (2 : Int), .slice none 0 0, (.slice pa vs.length ca)] 45)) := (Mod.refl _ w9).alloc _
                      have hmx : Mod (fun b => (Value.slice C i cb).ownBlock = some b) w9 w8 := Mod.trans (T := fun b => (Value.slice C i cb).ownBlock = some b) ((Mod.refl _ w9).alloc _) hmA (fun i hi => .inl hi)
                      have hoG : ∀ b, (Value.slice C i cb).ownBlock = some b → G < b := fun b hb => (own_lt hown3 hb).1
                      have hC8 : C5 w8 G (Value.slice A2 (i + 1) c5).ownBlock (xs ++ [.int .i64 (⟨(ix : Int) + 1 + i, (tm1 : Int), 2, [], vs⟩ : En).ix, .int .i64 (⟨(ix : Int) + 1 + i, (tm1 : Int), 2, [], vs⟩ : En).tm, .int .i64 (⟨(ix : Int) + 1 + i, (tm1 : Int), 2, [], vs⟩ : En).kd, .slice none 0 0, (.slice pa vs.length ca)]) (es ++ [(⟨(ix : Int) + 1 + i, (tm1 : Int), 2, [], vs⟩ : En)]) := C5.move hmA hnew _ _ (C5.app (e := (⟨(ix : Int) + 1 + i, (tm1 : Int), 2, [], vs⟩ : En)) (RdC.mod (⟨.inl ⟨rfl, rfl⟩, none, 0, rfl, Nat.le_refl _, Nat.zero_le _⟩ : RdC w9 (.slice none 0 0) []) hmF) (RI.mod hvy hmF) (fun a n c hv _ => by cases hv) hofy _ _ (C5.keep hmF (fun _ h => h.elim) _ _ (C5.keep HMy.out (fun b hb => .inl (by have : b = r := hb; omega)) _ _ hC.out)))
                      have hL8 : Blk w8 G #[.int .i64 (3 : Int), .int .i64 (fr : Int), .int .i64 (tt : Int), .int .i64 (tm : Int), .int .i64 (ix : Int), .int .i64 (lt : Int), .int .i64 (cm : Int), .int .i64 (rd : Int), .bool false, .slice C i cb, .int .i64 (0 : Int), .int .i64 (0 : Int), .slice none 0 0, .slice none 0 0] 28 := (HLr.out.mod HMy.out (by omega)).mod hmx (fun hb => by have := hoG _ hb; omega)
                      have q9 := hL8.cell 9
                      have zq9 := hL8.frozen 9
                      have p9 : w9.cell? ⟨G, 9, none⟩ = some (.slice C i cb) := (HLr.out.mod HMy.out (by omega)).cell 9
                      have e0 := HBy.out.cell 0
                      have e1 := HBy.out.cell 1
                      have e2 := HBy.out.cell 2
                      have e3 := HBy.out.cell 3
                      have e4 := HBy.out.cell 4
                      have hq : Mod (· = G) w8 (w8.setCell ⟨G, 9, none⟩ (.slice A2 (i + 1) c5)) := Mod.setCell (S := (· = G)) (Mod.refl _ w8) (p := ⟨G, 9, none⟩) (.inl rfl) _
                      have hBw : B ≤ w.heap.size := HBW.out
                      have hGw : w.heap.size < G := HGW.out
                      have HRz := Lib.hid ((HRy.out.keep hmx (fun b hb => by have := hoG _ hb; omega)).keep hq (fun b hb => by have : b = G := hb; omega))
                      have HMz : Hid (Mod (· = r) w (w8.setCell ⟨G, 9, none⟩ (.slice A2 (i + 1) c5))) := Lib.hid (((HMr.out.trans HMy.out (fun i hi => .inl hi)).trans hmx (fun b hb => .inr (by have := hoG _ hb; omega))).trans hq (fun b hb => .inr (by have : b = G := hb; omega)))
                      have HBz := Lib.hid (((HBr.out.mod HMy.out (by have := HRW.out; omega)).mod hmx (fun hb => by have := hoG _ hb; omega)).mod hq (fun hb => by have : w.heap.size = G := hb; omega))
                      have HLz : Hid (Blk (w8.setCell ⟨G, 9, none⟩ (.slice A2 (i + 1) c5)) G #[.int .i64 (3 : Int), .int .i64 (fr : Int), .int .i64 (tt : Int), .int .i64 (tm : Int), .int .i64 (ix : Int), .int .i64 (lt : Int), .int .i64 (cm : Int), .int .i64 (rd : Int), .bool false, .slice A2 (i + 1) c5, .int .i64 (0 : Int), .int .i64 (0 : Int), .slice none 0 0, .slice none 0 0] 28) := Lib.hid (hL8.set 9 _)
                      have HOz := Lib.hid (own_mod ho3 hq (fun g hg hb => by have h1 := (own_lt ho3 hg).1; have : g = G := hb; omega))
                      have HCz := Lib.hid (C5.keep hq (fun b hb => .inl (by have : b = G := hb; omega)) _ _ hC8)
                      have HEz := Lib.hid hE2
                      have HZ : Hid ((es ++ [(⟨(ix : Int) + 1 + i, (tm1 : Int), 2, [], vs⟩ : En)]).length = i + 1) := Lib.hid (by rw [List.length_append, HEL.out]; rfl)
                      clear hvy hofy h7 hent hE2 hown3 ho3 hmA hmx hmF hC8 hL8 hq hE hown hC HRr HMr HBr HLr HEL hnew h1 h2
                      go_wp2_with (at_builtin; refine wpList_append_run rfl _ _ 22 22 rfl _ _ rfl rfl hr ?_)
                      refine ⟨⟨i + 1, k7, es ++ [(⟨(ix : Int) + 1 + i, (tm1 : Int), 2, [], vs⟩ : En)], _, A2, c5, by simp, by omega, HZ, HRz, HMz, HBz, HLz, HOz, HCz, HEz⟩, ?_⟩
                      simp only [iOf]
                      omega
              · have q1 : ¬ (i : Int) < (n : Int) := by omega
                have hE2 := hE.out
                rw [show n - i = 0 by omega, entsR, thn_ok, List.append_nil] at hE2
                have hO5 := HOE.out
                rw [hE2, thn_ok] at hO5
                have HO := Lib.hid hO5
                clear hE2 hO5 hE
                have hown2 : wr.ownsRow (G + 1) 45 5 (.slice C i cb) es.length xs := by rw [HEL.out]; exact hown.out
                have c0 : wr.cell? ⟨G, 0, none⟩ = some (.int .i64 (3 : Int)) := HLr.out.cell 0
                have zc0 := HLr.out.frozen 0
                have c1 : wr.cell? ⟨G, 1, none⟩ = some (.int .i64 (fr : Int)) := HLr.out.cell 1
                have zc1 := HLr.out.frozen 1
                have c2 : wr.cell? ⟨G, 2, none⟩ = some (.int .i64 (tt : Int)) := HLr.out.cell 2
                have zc2 := HLr.out.frozen 2
                have c3 : wr.cell? ⟨G, 3, none⟩ = some (.int .i64 (tm : Int)) := HLr.out.cell 3
                have zc3 := HLr.out.frozen 3
                have c4 : wr.cell? ⟨G, 4, none⟩ = some (.int .i64 (ix : Int)) := HLr.out.cell 4
                have zc4 := HLr.out.frozen 4
                have c5 : wr.cell? ⟨G, 5, none⟩ = some (.int .i64 (lt : Int)) := HLr.out.cell 5
                have zc5 := HLr.out.frozen 5
                have c6 : wr.cell? ⟨G, 6, none⟩ = some (.int .i64 (cm : Int)) := HLr.out.cell 6
                have zc6 := HLr.out.frozen 6
                have c7 : wr.cell? ⟨G, 7, none⟩ = some (.int .i64 (rd : Int)) := HLr.out.cell 7
                have zc7 := HLr.out.frozen 7
                have c8 : wr.cell? ⟨G, 8, none⟩ = some (.bool false) := HLr.out.cell 8
                have zc8 := HLr.out.frozen 8
                have c9 : wr.cell? ⟨G, 9, none⟩ = some (.slice C i cb) := HLr.out.cell 9
                have zc9 := HLr.out.frozen 9
                have c10 : wr.cell? ⟨G, 10, none⟩ = some (.int .i64 (0 : Int)) := HLr.out.cell 10
                have zc10 := HLr.out.frozen 10
                have c11 : wr.cell? ⟨G, 11, none⟩ = some (.int .i64 (0 : Int)) := HLr.out.cell 11
                have zc11 := HLr.out.frozen 11
                have c12 : wr.cell? ⟨G, 12, none⟩ = some (.slice none 0 0) := HLr.out.cell 12
                have zc12 := HLr.out.frozen 12
                have c13 : wr.cell? ⟨G, 13, none⟩ = some (.slice none 0 0) := HLr.out.cell 13
                have zc13 := HLr.out.frozen 13
                have d0 : wr.cell? ⟨w.heap.size, 0, none⟩ = some (.int .i64 (0 : Int)) := HBr.out.cell 0
                have zd0 := HBr.out.frozen 0
                have d1 : wr.cell? ⟨w.heap.size, 1, none⟩ = some (.int .i64 (0 : Int)) := HBr.out.cell 1
                have zd1 := HBr.out.frozen 1
                have d2 : wr.cell? ⟨w.heap.size, 2, none⟩ = some (.int .i64 (0 : Int)) := HBr.out.cell 2
                have zd2 := HBr.out.frozen 2
                have d3 : wr.cell? ⟨w.heap.size, 3, none⟩ = some (.int .i64 (0 : Int)) := HBr.out.cell 3
                have zd3 := HBr.out.frozen 3
                have d4 : wr.cell? ⟨w.heap.size, 4, none⟩ = some (.int .i64 (0 : Int)) := HBr.out.cell 4
                have zd4 := HBr.out.frozen 4
                have d5 : wr.cell? ⟨w.heap.size, 5, none⟩ = some (.int .i64 (0 : Int)) := HBr.out.cell 5
                have zd5 := HBr.out.frozen 5
                have d6 : wr.cell? ⟨w.heap.size, 6, none⟩ = some (.int .i64 (0 : Int)) := HBr.out.cell 6
                have zd6 := HBr.out.frozen 6
                have d7 : wr.cell? ⟨w.heap.size, 7, none⟩ = some (.int .i64 (0 : Int)) := HBr.out.cell 7
                have zd7 := HBr.out.frozen 7
                have d8 : wr.cell? ⟨w.heap.size, 8, none⟩ = some (.bool false) := HBr.out.cell 8
                have zd8 := HBr.out.frozen 8
                have d9 : wr.cell? ⟨w.heap.size, 9, none⟩ = some (.slice none 0 0) := HBr.out.cell 9
                have zd9 := HBr.out.frozen 9
                have d10 : wr.cell? ⟨w.heap.size, 10, none⟩ = some (.int .i64 (0 : Int)) := HBr.out.cell 10
                have zd10 := HBr.out.frozen 10
                have d11 : wr.cell? ⟨w.heap.size, 11, none⟩ = some (.int .i64 (0 : Int)) := HBr.out.cell 11
                have zd11 := HBr.out.frozen 11
                have d12 : wr.cell? ⟨w.heap.size, 12, none⟩ = some (.slice none 0 0) := HBr.out.cell 12
                have zd12 := HBr.out.frozen 12
                have d13 : wr.cell? ⟨w.heap.size, 13, none⟩ = some (.slice none 0 0) := HBr.out.cell 13
                have zd13 := HBr.out.frozen 13
                go_wp2_with (fail)
                have hM5 : Mod (fun b => b = G ∨ b = w.heap.size) wr ((((((((((((((wr.setCell ⟨w.heap.size, 0, none⟩ (.int .i64 (3 : Int))).setCell ⟨w.heap.size, 1, none⟩ (.int .i64 (fr : Int))).setCell ⟨w.heap.size, 2, none⟩ (.int .i64 (tt : Int))).setCell ⟨w.heap.size, 3, none⟩ (.int .i64 (tm : Int))).setCell ⟨w.heap.size, 4, none⟩ (.int .i64 (ix : Int))).setCell ⟨w.heap.size, 5, none⟩ (.int .i64 (lt : Int))).setCell ⟨w.heap.size, 6, none⟩ (.int .i64 (cm : Int))).setCell ⟨w.heap.size, 7, none⟩ (.int .i64 (rd : Int))).setCell ⟨w.heap.size, 8, none⟩ (.bool false)).setCell ⟨w.heap.size, 9, none⟩ (.slice C i cb)).setCell ⟨w.heap.size, 10, none⟩ (.int .i64 (0 : Int))).setCell ⟨w.heap.size, 11, none⟩ (.int .i64 (0 : Int))).setCell ⟨w.heap.size, 12, none⟩ (.slice none 0 0)).setCell ⟨w.heap.size, 13, none⟩ (.slice none 0 0)) := mod14 (Mod.refl (fun b => b = G ∨ b = w.heap.size) wr) (.inl (.inr rfl)) _ _ _ _ _ _ _ _ _ _ _ _ _ _
                have hB : Blk ((((((((((((((wr.setCell ⟨w.heap.size, 0, none⟩ (.int .i64 (3 : Int))).setCell ⟨w.heap.size, 1, none⟩ (.int .i64 (fr : Int))).setCell ⟨w.heap.size, 2, none⟩ (.int .i64 (tt : Int))).setCell ⟨w.heap.size, 3, none⟩ (.int .i64 (tm : Int))).setCell ⟨w.heap.size, 4, none⟩ (.int .i64 (ix : Int))).setCell ⟨w.heap.size, 5, none⟩ (.int .i64 (lt : Int))).setCell ⟨w.heap.size, 6, none⟩ (.int .i64 (cm : Int))).setCell ⟨w.heap.size, 7, none⟩ (.int .i64 (rd : Int))).setCell ⟨w.heap.size, 8, none⟩ (.bool false)).setCell ⟨w.heap.size, 9, none⟩ (.slice C i cb)).setCell ⟨w.heap.size, 10, none⟩ (.int .i64 (0 : Int))).setCell ⟨w.heap.size, 11, none⟩ (.int .i64 (0 : Int))).setCell ⟨w.heap.size, 12, none⟩ (.slice none 0 0)).setCell ⟨w.heap.size, 13, none⟩ (.slice none 0 0)) w.heap.size #[.int .i64 (3 : Int), .int .i64 (fr : Int), .int .i64 (tt : Int), .int .i64 (tm : Int), .int .i64 (ix : Int), .int .i64 (lt : Int), .int .i64 (cm : Int), .int .i64 (rd : Int), .bool false, .slice C i cb, .int .i64 (0 : Int), .int .i64 (0 : Int), .slice none 0 0, .slice none 0 0] 28 := set14 HBr.out rfl _ _ _ _ _ _ _ _ _ _ _ _ _ _
                have hM : Mod (· = r) w ((((((((((((((wr.setCell ⟨w.heap.size, 0, none⟩ (.int .i64 (3 : Int))).setCell ⟨w.heap.size, 1, none⟩ (.int .i64 (fr : Int))).setCell ⟨w.heap.size, 2, none⟩ (.int .i64 (tt : Int))).setCell ⟨w.heap.size, 3, none⟩ (.int .i64 (tm : Int))).setCell ⟨w.heap.size, 4, none⟩ (.int .i64 (ix : Int))).setCell ⟨w.heap.size, 5, none⟩ (.int .i64 (lt : Int))).setCell ⟨w.heap.size, 6, none⟩ (.int .i64 (cm : Int))).setCell ⟨w.heap.size, 7, none⟩ (.int .i64 (rd : Int))).setCell ⟨w.heap.size, 8, none⟩ (.bool false)).setCell ⟨w.heap.size, 9, none⟩ (.slice C i cb)).setCell ⟨w.heap.size, 10, none⟩ (.int .i64 (0 : Int))).setCell ⟨w.heap.size, 11, none⟩ (.int .i64 (0 : Int))).setCell ⟨w.heap.size, 12, none⟩ (.slice none 0 0)).setCell ⟨w.heap.size, 13, none⟩ (.slice none 0 0)) := mod14 HMr.out (.inr (Nat.le_refl _)) _ _ _ _ _ _ _ _ _ _ _ _ _ _
                have hR : Rr B ((((((((((((((wr.setCell ⟨w.heap.size, 0, none⟩ (.int .i64 (3 : Int))).setCell ⟨w.heap.size, 1, none⟩ (.int .i64 (fr : Int))).setCell ⟨w.heap.size, 2, none⟩ (.int .i64 (tt : Int))).setCell ⟨w.heap.size, 3, none⟩ (.int .i64 (tm : Int))).setCell ⟨w.heap.size, 4, none⟩ (.int .i64 (ix : Int))).setCell ⟨w.heap.size, 5, none⟩ (.int .i64 (lt : Int))).setCell ⟨w.heap.size, 6, none⟩ (.int .i64 (cm : Int))).setCell ⟨w.heap.size, 7, none⟩ (.int .i64 (rd : Int))).setCell ⟨w.heap.size, 8, none⟩ (.bool false)).setCell ⟨w.heap.size, 9, none⟩ (.slice C i cb)).setCell ⟨w.heap.size, 10, none⟩ (.int .i64 (0 : Int))).setCell ⟨w.heap.size, 11, none⟩ (.int .i64 (0 : Int))).setCell ⟨w.heap.size, 12, none⟩ (.slice none 0 0)).setCell ⟨w.heap.size, 13, none⟩ (.slice none 0 0)) r bv l kk := HRr.out.keep hM5 (fun b hb => by have h1 := HBW.out; have h2 := HGW.out; rcases hb with rfl | rfl <;> omega)
                obtain ⟨W, hW⟩ : ∃ W, ((((((((((((((wr.setCell ⟨w.heap.size, 0, none⟩ (.int .i64 (3 : Int))).setCell ⟨w.heap.size, 1, none⟩ (.int .i64 (fr : Int))).setCell ⟨w.heap.size, 2, none⟩ (.int .i64 (tt : Int))).setCell ⟨w.heap.size, 3, none⟩ (.int .i64 (tm : Int))).setCell ⟨w.heap.size, 4, none⟩ (.int .i64 (ix : Int))).setCell ⟨w.heap.size, 5, none⟩ (.int .i64 (lt : Int))).setCell ⟨w.heap.size, 6, none⟩ (.int .i64 (cm : Int))).setCell ⟨w.heap.size, 7, none⟩ (.int .i64 (rd : Int))).setCell ⟨w.heap.size, 8, none⟩ (.bool false)).setCell ⟨w.heap.size, 9, none⟩ (.slice C i cb)).setCell ⟨w.heap.size, 10, none⟩ (.int .i64 (0 : Int))).setCell ⟨w.heap.size, 11, none⟩ (.int .i64 (0 : Int))).setCell ⟨w.heap.size, 12, none⟩ (.slice none 0 0)).setCell ⟨w.heap.size, 13, none⟩ (.slice none 0 0)) = W := ⟨_, rfl⟩
                rw [hW] at hB hM hR hM5
                clear c0 zc0 d0 zd0 c1 zc1 d1 zd1 c2 zc2 d2 zd2 c3 zc3 d3 zd3 c4 zc4 d4 zd4 c5 zc5 d5 zd5 c6 zc6 d6 zd6 c7 zc7 d7 zd7 c8 zc8 d8 zd8 c9 zc9 d9 zd9 c10 zc10 d10 zd10 c11 zc11 d11 zd11 c12 zc12 d12 zd12 c13 zc13 d13 zd13
                simp only [hW]
                have c0 : W.cell? ⟨w.heap.size, 0, none⟩ = some (.int .i64 (3 : Int)) := hB.cell 0
                have c1 : W.cell? ⟨w.heap.size, 1, none⟩ = some (.int .i64 (fr : Int)) := hB.cell 1
                have c2 : W.cell? ⟨w.heap.size, 2, none⟩ = some (.int .i64 (tt : Int)) := hB.cell 2
                have c3 : W.cell? ⟨w.heap.size, 3, none⟩ = some (.int .i64 (tm : Int)) := hB.cell 3
                have c4 : W.cell? ⟨w.heap.size, 4, none⟩ = some (.int .i64 (ix : Int)) := hB.cell 4
                have c5 : W.cell? ⟨w.heap.size, 5, none⟩ = some (.int .i64 (lt : Int)) := hB.cell 5
                have c6 : W.cell? ⟨w.heap.size, 6, none⟩ = some (.int .i64 (cm : Int)) := hB.cell 6
                have c7 : W.cell? ⟨w.heap.size, 7, none⟩ = some (.int .i64 (rd : Int)) := hB.cell 7
                have c8 : W.cell? ⟨w.heap.size, 8, none⟩ = some (.bool false) := hB.cell 8
                have c9 : W.cell? ⟨w.heap.size, 9, none⟩ = some (.slice C i cb) := hB.cell 9
                have c10 : W.cell? ⟨w.heap.size, 10, none⟩ = some (.int .i64 (0 : Int)) := hB.cell 10
                have c11 : W.cell? ⟨w.heap.size, 11, none⟩ = some (.int .i64 (0 : Int)) := hB.cell 11
                have c12 : W.cell? ⟨w.heap.size, 12, none⟩ = some (.slice none 0 0) := hB.cell 12
                have c13 : W.cell? ⟨w.heap.size, 13, none⟩ = some (.slice none 0 0) := hB.cell 13
                refine ⟨rfl, .agg #[.int .i64 (3 : Int), .int .i64 (fr : Int), .int .i64 (tt : Int), .int .i64 (tm : Int), .int .i64 (ix : Int), .int .i64 (lt : Int), .int .i64 (cm : Int), .int .i64 (rd : Int), .bool false, .slice C i cb, .int .i64 (0 : Int), .int .i64 (0 : Int), .slice none 0 0, .slice none 0 0], ?_, ?_⟩
                · simp [results, Tryd.results38, go_sem, c0, c1, c2, c3, c4, c5, c6, c7, c8, c9, c10, c11, c12, c13]
                · rw [HO.out]
                  exact ⟨_, rfl, hR, hM, ⟨.slice C i cb, .slice none 0 0, .slice none 0 0, rfl, fun S w' hm hS => ⟨re_own (D := G) (own_mod (own_mod hown2 hM5 (fun g hg hb => by have h1 := (own_lt hown2 hg).1; have h2 := HGW.out; rcases hb with hb | hb <;> omega)) hm (fun g hg hb => by have h1 := (own_lt hown2 hg).1; have h2 := HGW.out; have h3 := hS _ hb; omega)) (C5.keep hm (fun b hb => .inl (by have h2 := HGW.out; have h3 := hS _ hb; omega)) _ _ (C5.keep hM5 (fun b hb => .inl (by have h2 := HGW.out; rcases hb with hb | hb <;> omega)) _ _ hC.out)), .inl ⟨rfl, rfl⟩, .inl ⟨rfl, rfl⟩, none, 0, rfl, Nat.le_refl _, Nat.zero_le _⟩⟩⟩
end Go.Proofs.YtknaaaphdjdaoaaDoor
