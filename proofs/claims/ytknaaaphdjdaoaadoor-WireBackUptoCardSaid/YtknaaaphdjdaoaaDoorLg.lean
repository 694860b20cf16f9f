/-
  The reader: letters, an LInstall.
-/
import Derived.Test.YtknaaaphdjdaoaaDoorLe
namespace Go.Proofs.YtknaaaphdjdaoaaDoor
open Go.RowKit Mem
set_option linter.unusedVariables false
set_option linter.unusedSimpArgs false

theorem set4 {w : World} {g : Nat} {t : TypeId} {b0 b1 b2 b3 b4 b5 b6 b7 b8 b9 b10 b11 b12 b13 : Value} (h : Blk w g #[b0, b1, b2, b3, b4, b5, b6, b7, b8, b9, b10, b11, b12, b13] t) (a0 a1 a2 a3 : Value) : Blk ((((w.setCell ⟨g, 10, none⟩ a0).setCell ⟨g, 11, none⟩ a1).setCell ⟨g, 12, none⟩ a2).setCell ⟨g, 13, none⟩ a3) g #[b0, b1, b2, b3, b4, b5, b6, b7, b8, b9, a0, a1, a2, a3] t := by
  have := (((h.set 10 a0).set 11 a1).set 12 a2).set 13 a3
  exact this
set_option maxRecDepth 100000 in
set_option maxHeartbeats 3200000 in
theorem letter_5 (B : Nat) (r : Nat) (bv : Value) (l : Bs) (fr tt tm k1 k2 k3 k4 : Nat) (w : World) (h : Rr B w r bv l 0) (hn1 : nb l 0 5 = .ok (5, k1)) (hn2 : nb l k1 5 = .ok (fr, k2)) (hn3 : nb l k2 5 = .ok (tt, k3)) (hn4 : nb l k3 999999 = .ok (tm, k4)) :
    Calls Tryd.prog 38 #[.pointer (some ⟨r, 0, none⟩)] w (Reads (IsL w) B r bv l w (letterR l)) := by
  have hO1 : letterR l = restR l 5 fr tt tm k4 := by unfold letterR; simp only [hn1, hn2, hn3, hn4, thn]
  obtain ⟨O, hO⟩ : ∃ O, letterR l = O := ⟨_, rfl⟩
  rw [hO]
  rw [hO] at hO1
  have HO := Lib.hid hO1
  have hwm : Mod (· = r) w (w.alloc (Obj.cells #[Value.int IntKind.i64 0, Value.int IntKind.i64 0, Value.int IntKind.i64 0, Value.int IntKind.i64 0, Value.int IntKind.i64 0, Value.int IntKind.i64 0, Value.int IntKind.i64 0, Value.int IntKind.i64 0, Value.bool false, Value.slice none 0 0, Value.int IntKind.i64 0, Value.int IntKind.i64 0, Value.slice none 0 0, Value.slice none 0 0] 28)) := (Mod.refl _ w).alloc _
  have hres := Blk.new w #[Value.int IntKind.i64 0, Value.int IntKind.i64 0, Value.int IntKind.i64 0, Value.int IntKind.i64 0, Value.int IntKind.i64 0, Value.int IntKind.i64 0, Value.int IntKind.i64 0, Value.int IntKind.i64 0, Value.bool false, Value.slice none 0 0, Value.int IntKind.i64 0, Value.int IntKind.i64 0, Value.slice none 0 0, Value.slice none 0 0] 28
  have hr0 := h.of_alloc (Obj.cells #[Value.int IntKind.i64 0, Value.int IntKind.i64 0, Value.int IntKind.i64 0, Value.int IntKind.i64 0, Value.int IntKind.i64 0, Value.int IntKind.i64 0, Value.int IntKind.i64 0, Value.int IntKind.i64 0, Value.bool false, Value.slice none 0 0, Value.int IntKind.i64 0, Value.int IntKind.i64 0, Value.slice none 0 0, Value.slice none 0 0] 28)
  have hrw : r < w.heap.size := h.1.lt
  have HRW := Lib.hid hrw
  have HBW := Lib.hid h.2.2.2.2.2.2
  obtain ⟨w0, hw0⟩ : ∃ w0, w.alloc (Obj.cells #[Value.int IntKind.i64 0, Value.int IntKind.i64 0, Value.int IntKind.i64 0, Value.int IntKind.i64 0, Value.int IntKind.i64 0, Value.int IntKind.i64 0, Value.int IntKind.i64 0, Value.int IntKind.i64 0, Value.bool false, Value.slice none 0 0, Value.int IntKind.i64 0, Value.int IntKind.i64 0, Value.slice none 0 0, Value.slice none 0 0] 28) = w0 := ⟨_, rfl⟩
  rw [hw0] at hwm hres hr0
  have hx1 := number_any B r bv l 0 5 (by omega) w0 hr0
  rw [hn1] at hx1
  have HM0 := Lib.hid hwm
  have HB0 := Lib.hid hres
  clear h hO hO1 hwm hres hr0 hrw
  go_enter Tryd.func38, Tryd.ntmps38
  go_wp2_with (fail)
  clear hw0
  refine hx1.mono ?_
  rintro e w1 ⟨rfl, hr1, hm1⟩
  have HM1 := Lib.hid (md_r HM0.out hm1)
  have HB1 := Lib.hid (HB0.out.mod hm1 (by have := HRW.out; omega))
  have hx2 := number_any B r bv l k1 5 (by omega) w1 hr1
  rw [hn2] at hx2
  clear hx1 hr1 hm1 HM0 HB0
  go_wp2_with (fail)
  refine hx2.mono ?_
  rintro e w2 ⟨rfl, hr2, hm2⟩
  have HM2 := Lib.hid (md_r HM1.out hm2)
  have HB2 := Lib.hid (HB1.out.mod hm2 (by have := HRW.out; omega))
  have hx3 := number_any B r bv l k2 5 (by omega) w2 hr2
  rw [hn3] at hx3
  clear hx2 hr2 hm2 HM1 HB1
  go_wp2_with (fail)
  refine hx3.mono ?_
  rintro e w3 ⟨rfl, hr3, hm3⟩
  have HM3 := Lib.hid (md_r HM2.out hm3)
  have HB3 := Lib.hid (HB2.out.mod hm3 (by have := HRW.out; omega))
  have hx4 := number_any B r bv l k3 999999 (by omega) w3 hr3
  rw [hn4] at hx4
  clear hx3 hr3 hm3 HM2 HB2
  go_wp2_with (fail)
  refine hx4.mono ?_
  rintro e w4 ⟨rfl, hr4, hm4⟩
  have HM4 := Lib.hid (md_r HM3.out hm4)
  have HB4 := Lib.hid (HB3.out.mod hm4 (by have := HRW.out; omega))
  have HR4 := Lib.hid hr4
  clear hx4 hr4 hm4 HM3 HB3 hn1 hn2 hn3 hn4
  go_wp2_with (fail)
  have hO1 := HO.out
  unfold restR at hO1
  rw [if_neg (by decide), if_neg (by decide), if_neg (by decide), if_neg (by decide), if_pos rfl] at hO1
  clear HO
  have HO := Lib.hid hO1
  clear hO1
  have hG0 := Blk.new w4 #[.int .i64 (5 : Int), .int .i64 (fr : Int), .int .i64 (tt : Int), .int .i64 (tm : Int), .int .i64 (0 : Int), .int .i64 (0 : Int), .int .i64 (0 : Int), .int .i64 (0 : Int), .bool false, .slice none 0 0, .int .i64 (0 : Int), .int .i64 (0 : Int), .slice none 0 0, .slice none 0 0] 28
  obtain ⟨G, hG⟩ : ∃ G, w4.heap.size = G := ⟨_, rfl⟩
  rw [hG] at hG0
  have hGr : r < G := by have := HRW.out; have := HM4.out.size; omega
  have hGw : w.heap.size < G := by rw [← hG]; exact HB4.out.lt
  have HGR := Lib.hid hGr
  have hne : ¬ w.heap.size = G := by omega
  have hne' : ¬ G = w.heap.size := by omega
  have hM5 := HM4.out.alloc (.cells #[.int .i64 (5 : Int), .int .i64 (fr : Int), .int .i64 (tt : Int), .int .i64 (tm : Int), .int .i64 (0 : Int), .int .i64 (0 : Int), .int .i64 (0 : Int), .int .i64 (0 : Int), .bool false, .slice none 0 0, .int .i64 (0 : Int), .int .i64 (0 : Int), .slice none 0 0, .slice none 0 0] 28)
  have hB5 := HB4.out.alloc (.cells #[.int .i64 (5 : Int), .int .i64 (fr : Int), .int .i64 (tt : Int), .int .i64 (tm : Int), .int .i64 (0 : Int), .int .i64 (0 : Int), .int .i64 (0 : Int), .int .i64 (0 : Int), .bool false, .slice none 0 0, .int .i64 (0 : Int), .int .i64 (0 : Int), .slice none 0 0, .slice none 0 0] 28)
  have hR5 := HR4.out.of_alloc (.cells #[.int .i64 (5 : Int), .int .i64 (fr : Int), .int .i64 (tt : Int), .int .i64 (tm : Int), .int .i64 (0 : Int), .int .i64 (0 : Int), .int .i64 (0 : Int), .int .i64 (0 : Int), .bool false, .slice none 0 0, .int .i64 (0 : Int), .int .i64 (0 : Int), .slice none 0 0, .slice none 0 0] 28)
  obtain ⟨w5, hw5⟩ : ∃ w5, w4.alloc (.cells #[.int .i64 (5 : Int), .int .i64 (fr : Int), .int .i64 (tt : Int), .int .i64 (tm : Int), .int .i64 (0 : Int), .int .i64 (0 : Int), .int .i64 (0 : Int), .int .i64 (0 : Int), .bool false, .slice none 0 0, .int .i64 (0 : Int), .int .i64 (0 : Int), .slice none 0 0, .slice none 0 0] 28) = w5 := ⟨_, rfl⟩
  rw [hw5] at hG0 hM5 hB5 hR5
  have HM5 := Lib.hid hM5
  have HB5 := Lib.hid hB5
  have HR5 := Lib.hid hR5
  have HL5 := Lib.hid hG0
  have HGW := Lib.hid hGw
  clear hM5 hB5 hR5 hG0 HM4 HB4 HR4 hGr hGw
  simp only [hG, hw5]
  clear hw5
  have hx := number_any B r bv l k4 999999 (by omega) w5 HR5.out
  refine hx.mono ?_
  intro e w6 hR
  cases hnb : nb l k4 999999 with
  | error p =>
    rw [hnb] at hR
    obtain ⟨rfl, hm⟩ := hR
    have hO2 := HO.out
    rw [hnb, thn_err] at hO2
    have HE := Lib.hid hO2
    have HM6 := Lib.hid (md_r HM5.out hm)
    clear hx hnb hO2 hm HO HM5 HB5 HR5 HL5
    go_wp2_with (fail)
    refine ⟨rfl, ?_⟩
    rw [HE.out]
    exact ⟨rfl, HM6.out⟩
  | ok x =>
    obtain ⟨si, k6⟩ := x
    rw [hnb] at hR
    obtain ⟨rfl, hr, hm⟩ := hR
    have hO2 := HO.out
    rw [hnb] at hO2
    simp only [thn_ok] at hO2
    have hlesi := (nb_le HR5.out.2.2.2.1 hnb).1
    clear HO
    have HO := Lib.hid hO2
    have HM6 := Lib.hid (md_r HM5.out hm)
    have HB6 := Lib.hid (HB5.out.mod hm (by have := HRW.out; omega))
    have HL6 := Lib.hid (HL5.out.mod hm (by have := HGR.out; omega))
    have HR6 := Lib.hid hr
    skip
    clear hx hnb hO2 hm hr HM5 HB5 HR5 HL5
    go_wp2_with (fail)
    have hx := number_any B r bv l k6 999999 (by omega) w6 HR6.out
    refine hx.mono ?_
    intro e w7 hR
    cases hnb : nb l k6 999999 with
    | error p =>
      rw [hnb] at hR
      obtain ⟨rfl, hm⟩ := hR
      have hO2 := HO.out
      rw [hnb, thn_err] at hO2
      have HE := Lib.hid hO2
      have HM7 := Lib.hid (md_r HM6.out hm)
      clear hx hnb hO2 hm HO HM6 HB6 HR6 HL6
      go_wp2_with (fail)
      refine ⟨rfl, ?_⟩
      rw [HE.out]
      exact ⟨rfl, HM7.out⟩
    | ok x =>
      obtain ⟨st, k7⟩ := x
      rw [hnb] at hR
      obtain ⟨rfl, hr, hm⟩ := hR
      have hO2 := HO.out
      rw [hnb] at hO2
      simp only [thn_ok] at hO2
      have hlest := (nb_le HR6.out.2.2.2.1 hnb).1
      clear HO
      have HO := Lib.hid hO2
      have HM7 := Lib.hid (md_r HM6.out hm)
      have HB7 := Lib.hid (HB6.out.mod hm (by have := HRW.out; omega))
      have HL7 := Lib.hid (HL6.out.mod hm (by have := HGR.out; omega))
      have HR7 := Lib.hid hr
      skip
      clear hx hnb hO2 hm hr HM6 HB6 HR6 HL6
      go_wp2_with (fail)
      have hx := nodes_any B r bv l k7 w7 HR7.out
      refine hx.mono ?_
      intro e w8 hR
      cases hnb : nodesR l k7 with
      | error p =>
        rw [hnb] at hR
        obtain ⟨rfl, hm⟩ := hR
        have hO2 := HO.out
        rw [hnb, thn_err] at hO2
        have HE := Lib.hid hO2
        have HM8 := Lib.hid (md_r HM7.out hm)
        clear hx hnb hO2 hm HO HM7 HB7 HR7 HL7
        go_wp2_with (fail)
        refine ⟨rfl, ?_⟩
        rw [HE.out]
        exact ⟨rfl, HM8.out⟩
      | ok x =>
        obtain ⟨sn, k8⟩ := x
        rw [hnb] at hR
        obtain ⟨vsn, rfl, hr, hm, hv, hf⟩ := hR
        have hO2 := HO.out
        rw [hnb] at hO2
        simp only [thn_ok] at hO2
        clear HO
        have HO := Lib.hid hO2
        have hGn := HL7.out.lt
        have hX : RI w8 vsn sn ∧ ∀ a n c, vsn = .slice (some a) n c → G < a.block := ⟨hv, fun a n c h => Nat.lt_of_lt_of_le hGn (hf a n c h)⟩
        have HXsn := Lib.hid hX
        have HM8 := Lib.hid (md_r HM7.out hm)
        have HB8 := Lib.hid (HB7.out.mod hm (by have := HRW.out; omega))
        have HL8 := Lib.hid (HL7.out.mod hm (by have := HGR.out; omega))
        have HR8 := Lib.hid hr
        skip
        clear hx hnb hO2 hm hr HM7 HB7 HR7 HL7 hGn hX hv hf
        obtain ⟨psn, csn, rfl⟩ := HXsn.out.1.val
        go_wp2_with (fail)
        have hx := text_any B r bv l k8 300000 (by omega) w8 HR8.out
        refine hx.mono ?_
        intro e w9 hR
        cases hnb : tb l k8 300000 with
        | error p =>
          rw [hnb] at hR
          obtain ⟨rfl, hm⟩ := hR
          have hO2 := HO.out
          rw [hnb, thn_err] at hO2
          have HE := Lib.hid hO2
          have HM9 := Lib.hid (md_r HM8.out hm)
          clear hx hnb hO2 hm HO HM8 HB8 HR8 HL8
          go_wp2_with (fail)
          refine ⟨rfl, ?_⟩
          rw [HE.out]
          exact ⟨rfl, HM9.out⟩
        | ok x =>
          obtain ⟨sd, k9⟩ := x
          rw [hnb] at hR
          obtain ⟨vsd, rfl, hr, hm, hv, hf⟩ := hR
          have hO2 := HO.out
          rw [hnb] at hO2
          simp only [thn_ok] at hO2
          clear HO
          have HO := Lib.hid hO2
          have hGn := HL8.out.lt
          have hX : RdC w9 vsd sd ∧ ∀ a n c, vsd = .slice (some a) n c → G < a.block := ⟨hv, fun a n c h => Nat.lt_of_lt_of_le hGn (hf a n c h)⟩
          have HXsd := Lib.hid hX
          have HM9 := Lib.hid (md_r HM8.out hm)
          have HB9 := Lib.hid (HB8.out.mod hm (by have := HRW.out; omega))
          have HL9 := Lib.hid (HL8.out.mod hm (by have := HGR.out; omega))
          have HR9 := Lib.hid hr
          have HYsn : Hid (RI w9 (Value.slice psn sn.length csn) sn ∧ ∀ a n c, (Value.slice psn sn.length csn) = .slice (some a) n c → G < a.block) := Lib.hid ⟨HXsn.out.1.keep hm (fun a n c h hb => by have h1 := HXsn.out.2 a n c h; have h2 := HGR.out; omega), HXsn.out.2⟩
          clear HXsn
          have HXsn := HYsn
          clear HYsn
          clear hx hnb hO2 hm hr HM8 HB8 HR8 HL8 hGn hX hv hf
          obtain ⟨psd, csd, rfl⟩ := HXsd.out.1.val
          have c10 : w9.cell? ⟨G, 10, none⟩ = some (.int .i64 (0 : Int)) := HL9.out.cell 10
          have zc10 := HL9.out.frozen 10
          have c11 : w9.cell? ⟨G, 11, none⟩ = some (.int .i64 (0 : Int)) := HL9.out.cell 11
          have zc11 := HL9.out.frozen 11
          have c12 : w9.cell? ⟨G, 12, none⟩ = some (.slice none 0 0) := HL9.out.cell 12
          have zc12 := HL9.out.frozen 12
          have c13 : w9.cell? ⟨G, 13, none⟩ = some (.slice none 0 0) := HL9.out.cell 13
          have zc13 := HL9.out.frozen 13
          go_wp2_with (fail)
          have hq : Mod (· = G) w9 ((((w9.setCell ⟨G, 10, none⟩ (.int .i64 (si : Int))).setCell ⟨G, 11, none⟩ (.int .i64 (st : Int))).setCell ⟨G, 12, none⟩ ((Value.slice psn sn.length csn))).setCell ⟨G, 13, none⟩ ((Value.slice psd sd.length csd))) := (Mod.setCell (S := (· = G)) (Mod.setCell (S := (· = G)) (Mod.setCell (S := (· = G)) (Mod.setCell (S := (· = G)) (Mod.refl (· = G) w9) (p := ⟨G, 10, none⟩) (.inl rfl) _) (p := ⟨G, 11, none⟩) (.inl rfl) _) (p := ⟨G, 12, none⟩) (.inl rfl) _) (p := ⟨G, 13, none⟩) (.inl rfl) _)
          have hL : Blk ((((w9.setCell ⟨G, 10, none⟩ (.int .i64 (si : Int))).setCell ⟨G, 11, none⟩ (.int .i64 (st : Int))).setCell ⟨G, 12, none⟩ ((Value.slice psn sn.length csn))).setCell ⟨G, 13, none⟩ ((Value.slice psd sd.length csd))) G #[.int .i64 (5 : Int), .int .i64 (fr : Int), .int .i64 (tt : Int), .int .i64 (tm : Int), .int .i64 (0 : Int), .int .i64 (0 : Int), .int .i64 (0 : Int), .int .i64 (0 : Int), .bool false, .slice none 0 0, .int .i64 (si : Int), .int .i64 (st : Int), (Value.slice psn sn.length csn), (Value.slice psd sd.length csd)] 28 := set4 HL9.out _ _ _ _
          obtain ⟨w10, hw⟩ : ∃ w10, ((((w9.setCell ⟨G, 10, none⟩ (.int .i64 (si : Int))).setCell ⟨G, 11, none⟩ (.int .i64 (st : Int))).setCell ⟨G, 12, none⟩ ((Value.slice psn sn.length csn))).setCell ⟨G, 13, none⟩ ((Value.slice psd sd.length csd))) = w10 := ⟨_, rfl⟩
          rw [hw] at hq hL
          clear c10 zc10 c11 zc11 c12 zc12 c13 zc13
          simp only [hw]
          clear hw
          have HM10 := Lib.hid (HM9.out.trans hq (fun i hi => .inr (by have := HGW.out; omega)))
          have HB10 := Lib.hid (HB9.out.mod hq (by have := HGW.out; omega))
          have HL10 := Lib.hid hL
          have HR10 := Lib.hid (HR9.out.keep hq (fun b hb => by have h1 := HBW.out; have h2 := HGW.out; omega))
          have HYsn : Hid (RI w10 (Value.slice psn sn.length csn) sn ∧ ∀ a n c, (Value.slice psn sn.length csn) = .slice (some a) n c → G < a.block) := Lib.hid ⟨HXsn.out.1.keep hq (fun a n c h hb => by have h1 := HXsn.out.2 a n c h; omega), HXsn.out.2⟩
          have HYsd : Hid (RdC w10 (Value.slice psd sd.length csd) sd ∧ ∀ a n c, (Value.slice psd sd.length csd) = .slice (some a) n c → G < a.block) := Lib.hid ⟨HXsd.out.1.keep hq (fun a n c h _ hb => by have h1 := HXsd.out.2 a n c h; omega), HXsd.out.2⟩
          clear HXsn HXsd
          have HXsn := HYsn
          have HXsd := HYsd
          clear HYsn HYsd hq hL HM9 HB9 HL9 HR9
          have hx := number_any B r bv l k9 1073741824 (by omega) w10 HR10.out
          refine hx.mono ?_
          intro e w11 hR
          cases hnb : nb l k9 1073741824 with
          | error p =>
            rw [hnb] at hR
            obtain ⟨rfl, hm⟩ := hR
            have hO2 := HO.out
            rw [hnb, thn_err] at hO2
            have HE := Lib.hid hO2
            have HM11 := Lib.hid (md_r HM10.out hm)
            clear hx hnb hO2 hm HO HM10 HB10 HR10 HL10
            go_wp2_with (fail)
            refine ⟨rfl, ?_⟩
            rw [HE.out]
            exact ⟨rfl, HM11.out⟩
          | ok x =>
            obtain ⟨rd, k11⟩ := x
            rw [hnb] at hR
            obtain ⟨rfl, hr, hm⟩ := hR
            have hO2 := HO.out
            rw [hnb] at hO2
            simp only [thn_ok] at hO2
            have hlerd := (nb_le HR10.out.2.2.2.1 hnb).1
            clear HO
            have HO := Lib.hid hO2
            have HM11 := Lib.hid (md_r HM10.out hm)
            have HB11 := Lib.hid (HB10.out.mod hm (by have := HRW.out; omega))
            have HL11 := Lib.hid (HL10.out.mod hm (by have := HGR.out; omega))
            have HR11 := Lib.hid hr
            have HYsn : Hid (RI w11 (Value.slice psn sn.length csn) sn ∧ ∀ a n c, (Value.slice psn sn.length csn) = .slice (some a) n c → G < a.block) := Lib.hid ⟨HXsn.out.1.keep hm (fun a n c h hb => by have h1 := HXsn.out.2 a n c h; have h2 := HGR.out; omega), HXsn.out.2⟩
            clear HXsn
            have HXsn := HYsn
            clear HYsn
            have HYsd : Hid (RdC w11 (Value.slice psd sd.length csd) sd ∧ ∀ a n c, (Value.slice psd sd.length csd) = .slice (some a) n c → G < a.block) := Lib.hid ⟨HXsd.out.1.keep hm (fun a n c h _ hb => by have h1 := HXsd.out.2 a n c h; have h2 := HGR.out; omega), HXsd.out.2⟩
            clear HXsd
            have HXsd := HYsd
            clear HYsd
            clear hx hnb hO2 hm hr HM10 HB10 HR10 HL10
            have c0 : w11.cell? ⟨G, 0, none⟩ = some (.int .i64 (5 : Int)) := HL11.out.cell 0
            have zc0 := HL11.out.frozen 0
            have c1 : w11.cell? ⟨G, 1, none⟩ = some (.int .i64 (fr : Int)) := HL11.out.cell 1
            have zc1 := HL11.out.frozen 1
            have c2 : w11.cell? ⟨G, 2, none⟩ = some (.int .i64 (tt : Int)) := HL11.out.cell 2
            have zc2 := HL11.out.frozen 2
            have c3 : w11.cell? ⟨G, 3, none⟩ = some (.int .i64 (tm : Int)) := HL11.out.cell 3
            have zc3 := HL11.out.frozen 3
            have c4 : w11.cell? ⟨G, 4, none⟩ = some (.int .i64 (0 : Int)) := HL11.out.cell 4
            have zc4 := HL11.out.frozen 4
            have c5 : w11.cell? ⟨G, 5, none⟩ = some (.int .i64 (0 : Int)) := HL11.out.cell 5
            have zc5 := HL11.out.frozen 5
            have c6 : w11.cell? ⟨G, 6, none⟩ = some (.int .i64 (0 : Int)) := HL11.out.cell 6
            have zc6 := HL11.out.frozen 6
            have c7 : w11.cell? ⟨G, 7, none⟩ = some (.int .i64 (0 : Int)) := HL11.out.cell 7
            have zc7 := HL11.out.frozen 7
            have c8 : w11.cell? ⟨G, 8, none⟩ = some (.bool false) := HL11.out.cell 8
            have zc8 := HL11.out.frozen 8
            have c9 : w11.cell? ⟨G, 9, none⟩ = some (.slice none 0 0) := HL11.out.cell 9
            have zc9 := HL11.out.frozen 9
            have c10 : w11.cell? ⟨G, 10, none⟩ = some (.int .i64 (si : Int)) := HL11.out.cell 10
            have zc10 := HL11.out.frozen 10
            have c11 : w11.cell? ⟨G, 11, none⟩ = some (.int .i64 (st : Int)) := HL11.out.cell 11
            have zc11 := HL11.out.frozen 11
            have c12 : w11.cell? ⟨G, 12, none⟩ = some ((Value.slice psn sn.length csn)) := HL11.out.cell 12
            have zc12 := HL11.out.frozen 12
            have c13 : w11.cell? ⟨G, 13, none⟩ = some ((Value.slice psd sd.length csd)) := HL11.out.cell 13
            have zc13 := HL11.out.frozen 13
            have d0 : w11.cell? ⟨w.heap.size, 0, none⟩ = some (.int .i64 (0 : Int)) := HB11.out.cell 0
            have zd0 := HB11.out.frozen 0
            have d1 : w11.cell? ⟨w.heap.size, 1, none⟩ = some (.int .i64 (0 : Int)) := HB11.out.cell 1
            have zd1 := HB11.out.frozen 1
            have d2 : w11.cell? ⟨w.heap.size, 2, none⟩ = some (.int .i64 (0 : Int)) := HB11.out.cell 2
            have zd2 := HB11.out.frozen 2
            have d3 : w11.cell? ⟨w.heap.size, 3, none⟩ = some (.int .i64 (0 : Int)) := HB11.out.cell 3
            have zd3 := HB11.out.frozen 3
            have d4 : w11.cell? ⟨w.heap.size, 4, none⟩ = some (.int .i64 (0 : Int)) := HB11.out.cell 4
            have zd4 := HB11.out.frozen 4
            have d5 : w11.cell? ⟨w.heap.size, 5, none⟩ = some (.int .i64 (0 : Int)) := HB11.out.cell 5
            have zd5 := HB11.out.frozen 5
            have d6 : w11.cell? ⟨w.heap.size, 6, none⟩ = some (.int .i64 (0 : Int)) := HB11.out.cell 6
            have zd6 := HB11.out.frozen 6
            have d7 : w11.cell? ⟨w.heap.size, 7, none⟩ = some (.int .i64 (0 : Int)) := HB11.out.cell 7
            have zd7 := HB11.out.frozen 7
            have d8 : w11.cell? ⟨w.heap.size, 8, none⟩ = some (.bool false) := HB11.out.cell 8
            have zd8 := HB11.out.frozen 8
            have d9 : w11.cell? ⟨w.heap.size, 9, none⟩ = some (.slice none 0 0) := HB11.out.cell 9
            have zd9 := HB11.out.frozen 9
            have d10 : w11.cell? ⟨w.heap.size, 10, none⟩ = some (.int .i64 (0 : Int)) := HB11.out.cell 10
            have zd10 := HB11.out.frozen 10
            have d11 : w11.cell? ⟨w.heap.size, 11, none⟩ = some (.int .i64 (0 : Int)) := HB11.out.cell 11
            have zd11 := HB11.out.frozen 11
            have d12 : w11.cell? ⟨w.heap.size, 12, none⟩ = some (.slice none 0 0) := HB11.out.cell 12
            have zd12 := HB11.out.frozen 12
            have d13 : w11.cell? ⟨w.heap.size, 13, none⟩ = some (.slice none 0 0) := HB11.out.cell 13
            have zd13 := HB11.out.frozen 13
            go_wp2_with (fail)
            have hM5 : Mod (fun b => b = G ∨ b = w.heap.size) w11 (((((((((((((((w11.setCell ⟨G, 7, none⟩ (.int .i64 (rd : Int))).setCell ⟨w.heap.size, 0, none⟩ (.int .i64 (5 : Int))).setCell ⟨w.heap.size, 1, none⟩ (.int .i64 (fr : Int))).setCell ⟨w.heap.size, 2, none⟩ (.int .i64 (tt : Int))).setCell ⟨w.heap.size, 3, none⟩ (.int .i64 (tm : Int))).setCell ⟨w.heap.size, 4, none⟩ (.int .i64 (0 : Int))).setCell ⟨w.heap.size, 5, none⟩ (.int .i64 (0 : Int))).setCell ⟨w.heap.size, 6, none⟩ (.int .i64 (0 : Int))).setCell ⟨w.heap.size, 7, none⟩ (.int .i64 (rd : Int))).setCell ⟨w.heap.size, 8, none⟩ (.bool false)).setCell ⟨w.heap.size, 9, none⟩ (.slice none 0 0)).setCell ⟨w.heap.size, 10, none⟩ (.int .i64 (si : Int))).setCell ⟨w.heap.size, 11, none⟩ (.int .i64 (st : Int))).setCell ⟨w.heap.size, 12, none⟩ ((Value.slice psn sn.length csn))).setCell ⟨w.heap.size, 13, none⟩ ((Value.slice psd sd.length csd))) := mod14 (Mod.setCell (S := fun b => b = G ∨ b = w.heap.size) (Mod.refl (fun b => b = G ∨ b = w.heap.size) w11) (p := ⟨G, 7, none⟩) (.inl (.inl rfl)) _) (.inl (.inr rfl)) _ _ _ _ _ _ _ _ _ _ _ _ _ _
            have hB : Blk (((((((((((((((w11.setCell ⟨G, 7, none⟩ (.int .i64 (rd : Int))).setCell ⟨w.heap.size, 0, none⟩ (.int .i64 (5 : Int))).setCell ⟨w.heap.size, 1, none⟩ (.int .i64 (fr : Int))).setCell ⟨w.heap.size, 2, none⟩ (.int .i64 (tt : Int))).setCell ⟨w.heap.size, 3, none⟩ (.int .i64 (tm : Int))).setCell ⟨w.heap.size, 4, none⟩ (.int .i64 (0 : Int))).setCell ⟨w.heap.size, 5, none⟩ (.int .i64 (0 : Int))).setCell ⟨w.heap.size, 6, none⟩ (.int .i64 (0 : Int))).setCell ⟨w.heap.size, 7, none⟩ (.int .i64 (rd : Int))).setCell ⟨w.heap.size, 8, none⟩ (.bool false)).setCell ⟨w.heap.size, 9, none⟩ (.slice none 0 0)).setCell ⟨w.heap.size, 10, none⟩ (.int .i64 (si : Int))).setCell ⟨w.heap.size, 11, none⟩ (.int .i64 (st : Int))).setCell ⟨w.heap.size, 12, none⟩ ((Value.slice psn sn.length csn))).setCell ⟨w.heap.size, 13, none⟩ ((Value.slice psd sd.length csd))) w.heap.size #[.int .i64 (5 : Int), .int .i64 (fr : Int), .int .i64 (tt : Int), .int .i64 (tm : Int), .int .i64 (0 : Int), .int .i64 (0 : Int), .int .i64 (0 : Int), .int .i64 (rd : Int), .bool false, .slice none 0 0, .int .i64 (si : Int), .int .i64 (st : Int), (Value.slice psn sn.length csn), (Value.slice psd sd.length csd)] 28 := set14 (HB11.out.far (p := ⟨G, 7, none⟩) (by have := HGW.out; show w.heap.size ≠ G; omega) _) rfl _ _ _ _ _ _ _ _ _ _ _ _ _ _
            have hM : Mod (· = r) w (((((((((((((((w11.setCell ⟨G, 7, none⟩ (.int .i64 (rd : Int))).setCell ⟨w.heap.size, 0, none⟩ (.int .i64 (5 : Int))).setCell ⟨w.heap.size, 1, none⟩ (.int .i64 (fr : Int))).setCell ⟨w.heap.size, 2, none⟩ (.int .i64 (tt : Int))).setCell ⟨w.heap.size, 3, none⟩ (.int .i64 (tm : Int))).setCell ⟨w.heap.size, 4, none⟩ (.int .i64 (0 : Int))).setCell ⟨w.heap.size, 5, none⟩ (.int .i64 (0 : Int))).setCell ⟨w.heap.size, 6, none⟩ (.int .i64 (0 : Int))).setCell ⟨w.heap.size, 7, none⟩ (.int .i64 (rd : Int))).setCell ⟨w.heap.size, 8, none⟩ (.bool false)).setCell ⟨w.heap.size, 9, none⟩ (.slice none 0 0)).setCell ⟨w.heap.size, 10, none⟩ (.int .i64 (si : Int))).setCell ⟨w.heap.size, 11, none⟩ (.int .i64 (st : Int))).setCell ⟨w.heap.size, 12, none⟩ ((Value.slice psn sn.length csn))).setCell ⟨w.heap.size, 13, none⟩ ((Value.slice psd sd.length csd))) := mod14 (Mod.setCell (S := (· = r)) HM11.out (p := ⟨G, 7, none⟩) (.inr (Nat.le_of_lt HGW.out)) _) (.inr (Nat.le_refl _)) _ _ _ _ _ _ _ _ _ _ _ _ _ _
            have hR : Rr B (((((((((((((((w11.setCell ⟨G, 7, none⟩ (.int .i64 (rd : Int))).setCell ⟨w.heap.size, 0, none⟩ (.int .i64 (5 : Int))).setCell ⟨w.heap.size, 1, none⟩ (.int .i64 (fr : Int))).setCell ⟨w.heap.size, 2, none⟩ (.int .i64 (tt : Int))).setCell ⟨w.heap.size, 3, none⟩ (.int .i64 (tm : Int))).setCell ⟨w.heap.size, 4, none⟩ (.int .i64 (0 : Int))).setCell ⟨w.heap.size, 5, none⟩ (.int .i64 (0 : Int))).setCell ⟨w.heap.size, 6, none⟩ (.int .i64 (0 : Int))).setCell ⟨w.heap.size, 7, none⟩ (.int .i64 (rd : Int))).setCell ⟨w.heap.size, 8, none⟩ (.bool false)).setCell ⟨w.heap.size, 9, none⟩ (.slice none 0 0)).setCell ⟨w.heap.size, 10, none⟩ (.int .i64 (si : Int))).setCell ⟨w.heap.size, 11, none⟩ (.int .i64 (st : Int))).setCell ⟨w.heap.size, 12, none⟩ ((Value.slice psn sn.length csn))).setCell ⟨w.heap.size, 13, none⟩ ((Value.slice psd sd.length csd))) r bv l k11 := HR11.out.keep hM5 (fun b hb => by have h1 := HBW.out; have h2 := HGW.out; rcases hb with rfl | rfl <;> omega)
            obtain ⟨W, hW⟩ : ∃ W, (((((((((((((((w11.setCell ⟨G, 7, none⟩ (.int .i64 (rd : Int))).setCell ⟨w.heap.size, 0, none⟩ (.int .i64 (5 : Int))).setCell ⟨w.heap.size, 1, none⟩ (.int .i64 (fr : Int))).setCell ⟨w.heap.size, 2, none⟩ (.int .i64 (tt : Int))).setCell ⟨w.heap.size, 3, none⟩ (.int .i64 (tm : Int))).setCell ⟨w.heap.size, 4, none⟩ (.int .i64 (0 : Int))).setCell ⟨w.heap.size, 5, none⟩ (.int .i64 (0 : Int))).setCell ⟨w.heap.size, 6, none⟩ (.int .i64 (0 : Int))).setCell ⟨w.heap.size, 7, none⟩ (.int .i64 (rd : Int))).setCell ⟨w.heap.size, 8, none⟩ (.bool false)).setCell ⟨w.heap.size, 9, none⟩ (.slice none 0 0)).setCell ⟨w.heap.size, 10, none⟩ (.int .i64 (si : Int))).setCell ⟨w.heap.size, 11, none⟩ (.int .i64 (st : Int))).setCell ⟨w.heap.size, 12, none⟩ ((Value.slice psn sn.length csn))).setCell ⟨w.heap.size, 13, none⟩ ((Value.slice psd sd.length csd))) = W := ⟨_, rfl⟩
            rw [hW] at hB hM hR hM5
            clear c0 zc0 d0 zd0 c1 zc1 d1 zd1 c2 zc2 d2 zd2 c3 zc3 d3 zd3 c4 zc4 d4 zd4 c5 zc5 d5 zd5 c6 zc6 d6 zd6 c7 zc7 d7 zd7 c8 zc8 d8 zd8 c9 zc9 d9 zd9 c10 zc10 d10 zd10 c11 zc11 d11 zd11 c12 zc12 d12 zd12 c13 zc13 d13 zd13
            simp only [hW]
            have c0 : W.cell? ⟨w.heap.size, 0, none⟩ = some (.int .i64 (5 : Int)) := hB.cell 0
            have c1 : W.cell? ⟨w.heap.size, 1, none⟩ = some (.int .i64 (fr : Int)) := hB.cell 1
            have c2 : W.cell? ⟨w.heap.size, 2, none⟩ = some (.int .i64 (tt : Int)) := hB.cell 2
            have c3 : W.cell? ⟨w.heap.size, 3, none⟩ = some (.int .i64 (tm : Int)) := hB.cell 3
            have c4 : W.cell? ⟨w.heap.size, 4, none⟩ = some (.int .i64 (0 : Int)) := hB.cell 4
            have c5 : W.cell? ⟨w.heap.size, 5, none⟩ = some (.int .i64 (0 : Int)) := hB.cell 5
            have c6 : W.cell? ⟨w.heap.size, 6, none⟩ = some (.int .i64 (0 : Int)) := hB.cell 6
            have c7 : W.cell? ⟨w.heap.size, 7, none⟩ = some (.int .i64 (rd : Int)) := hB.cell 7
            have c8 : W.cell? ⟨w.heap.size, 8, none⟩ = some (.bool false) := hB.cell 8
            have c9 : W.cell? ⟨w.heap.size, 9, none⟩ = some (.slice none 0 0) := hB.cell 9
            have c10 : W.cell? ⟨w.heap.size, 10, none⟩ = some (.int .i64 (si : Int)) := hB.cell 10
            have c11 : W.cell? ⟨w.heap.size, 11, none⟩ = some (.int .i64 (st : Int)) := hB.cell 11
            have c12 : W.cell? ⟨w.heap.size, 12, none⟩ = some ((Value.slice psn sn.length csn)) := hB.cell 12
            have c13 : W.cell? ⟨w.heap.size, 13, none⟩ = some ((Value.slice psd sd.length csd)) := hB.cell 13
            refine ⟨rfl, .agg #[.int .i64 (5 : Int), .int .i64 (fr : Int), .int .i64 (tt : Int), .int .i64 (tm : Int), .int .i64 (0 : Int), .int .i64 (0 : Int), .int .i64 (0 : Int), .int .i64 (rd : Int), .bool false, .slice none 0 0, .int .i64 (si : Int), .int .i64 (st : Int), (Value.slice psn sn.length csn), (Value.slice psd sd.length csd)], ?_, ?_⟩
            · simp [results, Tryd.results38, go_sem, c0, c1, c2, c3, c4, c5, c6, c7, c8, c9, c10, c11, c12, c13]
            · rw [HO.out]
              exact ⟨_, rfl, hR, hM, ⟨.slice none 0 0, (Value.slice psn sn.length csn), (Value.slice psd sd.length csd), rfl, fun S w' hm hS => ⟨.inl ⟨rfl, rfl⟩, (HXsn.out.1.keep hM5 (fun a n c h hb => by have h1 := HXsn.out.2 a n c h; have h2 := HGW.out; rcases hb with hb | hb <;> omega)).keep hm (fun a n c h hb => by have h1 := HXsn.out.2 a n c h; have h2 := HGW.out; have h3 := hS _ hb; omega), (HXsd.out.1.keep hM5 (fun a n c h _ hb => by have h1 := HXsd.out.2 a n c h; have h2 := HGW.out; rcases hb with hb | hb <;> omega)).keep hm (fun a n c h _ hb => by have h1 := HXsd.out.2 a n c h; have h2 := HGW.out; have h3 := hS _ hb; omega)⟩⟩⟩
end Go.Proofs.YtknaaaphdjdaoaaDoor
