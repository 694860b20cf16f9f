/-
  The document's Same, whole.
-/
import Derived.Test.YtknaaaphdjdaoaaDoorSf
namespace Go.Proofs.YtknaaaphdjdaoaaDoor
open Go.RowKit Mem
set_option linter.unusedVariables false
set_option linter.unusedSimpArgs false

def snEq (a b : Lt) : Bool := (a.si == b.si) && (a.st == b.st) && decide (a.sn = b.sn) && decide (a.sd = b.sd)
def ltEq (a b : Lt) : Bool := (a.kd == b.kd) && (a.fr == b.fr) && (a.tt == b.tt) && (a.tm == b.tm) && (a.ix == b.ix) && (a.lt == b.lt) && (a.cm == b.cm) && (a.rd == b.rd) && (a.ok == b.ok) && esEq a.es b.es && snEq a b
theorem ltEq_iff (a b : Lt) : ltEq a b = true ↔ a = b := by
  obtain ⟨a0, a1, a2, a3, a4, a5, a6, a7, a8, es, a9, a10, sn, sd⟩ := a
  obtain ⟨b0, b1, b2, b3, b4, b5, b6, b7, b8, fs, b9, b10, tn, td⟩ := b
  simp [ltEq, snEq, esEq_iff, and_assoc]
set_option maxRecDepth 100000 in
set_option maxHeartbeats 3200000 in
theorem samesn_any (a9 a10 b9 b10 : Int) (sn tn : List Int) (sd td : Bs) (n1 d1 m1 g1 : Option Addr) (n3 d3 m3 g3 : Nat) (w : World) (hn : RI w (.slice n1 sn.length n3) sn) (hd : RdC w (.slice d1 sd.length d3) sd) (hn' : RI w (.slice m1 tn.length m3) tn) (hd' : RdC w (.slice g1 td.length g3) td) :
    Calls Tryd.prog 40 #[.agg #[.int .i64 a9, .int .i64 a10, .slice n1 sn.length n3, .slice d1 sd.length d3], .agg #[.int .i64 b9, .int .i64 b10, .slice m1 tn.length m3, .slice g1 td.length g3]] w fun e w' => e = .returned (.bool ((a9 == b9) && (a10 == b10) && decide (sn = tn) && decide (sd = td))) ∧ Mod (fun _ => False) w w' := by
  have hm : Mod (fun _ => False) w ((w.alloc (Obj.cells #[.int .i64 a9, .int .i64 a10, .slice n1 sn.length n3, .slice d1 sd.length d3] 26)).alloc (Obj.cells #[.int .i64 b9, .int .i64 b10, .slice m1 tn.length m3, .slice g1 td.length g3] 26)) := ((Mod.refl _ w).alloc _).alloc _
  have hs := samen_any _ _ sn tn _ (hn.mod hm) (hn'.mod hm)
  have HX : Hid (∀ w', Mod (fun _ => False) w w' → (convert 24 9 (.slice d1 sd.length d3)).run Tryd.prog w' = .ok (.string (sv sd)) w' ∧ (convert 24 9 (.slice g1 td.length g3)).run Tryd.prog w' = .ok (.string (sv td)) w') := Lib.hid (fun w' h => ⟨(hd.mod h).1.text, (hd'.mod h).1.text⟩)
  have HM := Lib.hid hm
  have t1 : (sv sd).toList = sd := sv_toList sd
  have t2 : (sv td).toList = td := sv_toList td
  obtain ⟨x1, h1⟩ : ∃ x, (a9 == b9) = x := ⟨_, rfl⟩
  obtain ⟨x2, h2⟩ : ∃ x, (a10 == b10) = x := ⟨_, rfl⟩
  obtain ⟨x3, h3⟩ : ∃ x, decide (sn = tn) = x := ⟨_, rfl⟩
  obtain ⟨x4, h4⟩ : ∃ x, (sd == td) = x := ⟨_, rfl⟩
  have hd4 : decide (sd = td) = x4 := by rw [← h4, Bool.eq_iff_iff]; simp
  rw [h1, h2, h3, hd4]
  rw [h3] at hs
  clear h3 hd4 hm hn hn' hd hd'
  go_enter Tryd.func40, Tryd.ntmps40
  go_wp2_with (fail)
  refine hs.mono ?_
  rintro e w2 ⟨rfl, q, rfl⟩
  have HM2 := Lib.hid (HM.out.drewN q)
  obtain ⟨y1, y2⟩ := HX.out _ HM2.out
  clear hs
  go_wp2_with (fail)
  all_goals
    go_ret
    refine ⟨?_, HM2.out⟩
    show Ending.returned (Value.bool _) = Ending.returned (Value.bool _)
    congr 2
    clear HM HM2 HX y1 y2
    simp_all
set_option maxRecDepth 100000 in
set_option maxHeartbeats 3200000 in
theorem same17_any (m m' : Lt) (ev nv dv eu nu du : Value) (w : World) (hu : LV w ev nv dv m) (hv : LV w eu nu du m') :
    Calls Tryd.prog 15 #[lval m ev nv dv, lval m' eu nu du] w fun e w' => e = .returned (.bool (ltEq m m')) ∧ Mod (fun _ => False) w w' := by
  obtain ⟨a0, a1, a2, a3, a4, a5, a6, a7, a8, es, a9, a10, sn, sd⟩ := m
  obtain ⟨b0, b1, b2, b3, b4, b5, b6, b7, b8, fs, b9, b10, tn, td⟩ := m'
  obtain ⟨e1, e3, rfl⟩ := hu.1.val
  obtain ⟨n1, n3, rfl⟩ := hu.2.1.val
  obtain ⟨_, d1, d3, rfl, _⟩ := id hu.2.2
  obtain ⟨f1, f3, rfl⟩ := hv.1.val
  obtain ⟨m1, m3, rfl⟩ := hv.2.1.val
  obtain ⟨_, g1, g3, rfl, _⟩ := id hv.2.2
  unfold lval
  simp only at *
  have hm : Mod (fun _ => False) w ((w.alloc (Obj.cells #[.int .i64 a0, .int .i64 a1, .int .i64 a2, .int .i64 a3, .int .i64 a4, .int .i64 a5, .int .i64 a6, .int .i64 a7, .bool a8, .slice e1 es.length e3, .int .i64 a9, .int .i64 a10, .slice n1 sn.length n3, .slice d1 sd.length d3] 28)).alloc (Obj.cells #[.int .i64 b0, .int .i64 b1, .int .i64 b2, .int .i64 b3, .int .i64 b4, .int .i64 b5, .int .i64 b6, .int .i64 b7, .bool b8, .slice f1 fs.length f3, .int .i64 b9, .int .i64 b10, .slice m1 tn.length m3, .slice g1 td.length g3] 28)) := ((Mod.refl _ w).alloc _).alloc _
  have hb1 := (Blk.new w #[.int .i64 a0, .int .i64 a1, .int .i64 a2, .int .i64 a3, .int .i64 a4, .int .i64 a5, .int .i64 a6, .int .i64 a7, .bool a8, .slice e1 es.length e3, .int .i64 a9, .int .i64 a10, .slice n1 sn.length n3, .slice d1 sd.length d3] 28).alloc (Obj.cells #[.int .i64 b0, .int .i64 b1, .int .i64 b2, .int .i64 b3, .int .i64 b4, .int .i64 b5, .int .i64 b6, .int .i64 b7, .bool b8, .slice f1 fs.length f3, .int .i64 b9, .int .i64 b10, .slice m1 tn.length m3, .slice g1 td.length g3] 28)
  have hb2 := Blk.new (w.alloc (Obj.cells #[.int .i64 a0, .int .i64 a1, .int .i64 a2, .int .i64 a3, .int .i64 a4, .int .i64 a5, .int .i64 a6, .int .i64 a7, .bool a8, .slice e1 es.length e3, .int .i64 a9, .int .i64 a10, .slice n1 sn.length n3, .slice d1 sd.length d3] 28)) #[.int .i64 b0, .int .i64 b1, .int .i64 b2, .int .i64 b3, .int .i64 b4, .int .i64 b5, .int .i64 b6, .int .i64 b7, .bool b8, .slice f1 fs.length f3, .int .i64 b9, .int .i64 b10, .slice m1 tn.length m3, .slice g1 td.length g3] 28
  have hsz : (w.alloc (Obj.cells #[.int .i64 a0, .int .i64 a1, .int .i64 a2, .int .i64 a3, .int .i64 a4, .int .i64 a5, .int .i64 a6, .int .i64 a7, .bool a8, .slice e1 es.length e3, .int .i64 a9, .int .i64 a10, .slice n1 sn.length n3, .slice d1 sd.length d3] 28)).heap.size = w.heap.size + 1 := by simp
  rw [hsz] at hb2
  have hse := samees_any _ _ es fs _ (hu.mod hm).1 (hv.mod hm).1
  have HSS : Hid (∀ w', Mod (fun _ => False) w w' → Calls Tryd.prog 40 #[.agg #[.int .i64 a9, .int .i64 a10, .slice n1 sn.length n3, .slice d1 sd.length d3], .agg #[.int .i64 b9, .int .i64 b10, .slice m1 tn.length m3, .slice g1 td.length g3]] w' fun e w2 => e = .returned (.bool (snEq ⟨a0, a1, a2, a3, a4, a5, a6, a7, a8, es, a9, a10, sn, sd⟩ ⟨b0, b1, b2, b3, b4, b5, b6, b7, b8, fs, b9, b10, tn, td⟩)) ∧ Mod (fun _ => False) w' w2) :=
    Lib.hid (fun w' h => samesn_any a9 a10 b9 b10 sn tn sd td n1 d1 m1 g1 n3 d3 m3 g3 w' (hu.mod h).2.1 (hu.mod h).2.2 (hv.mod h).2.1 (hv.mod h).2.2)
  have HM := Lib.hid hm
  have HB1 := Lib.hid hb1
  have HB2 := Lib.hid hb2
  obtain ⟨x0, h0⟩ : ∃ x, (a0 == b0) = x := ⟨_, rfl⟩
  obtain ⟨x1, h1⟩ : ∃ x, (a1 == b1) = x := ⟨_, rfl⟩
  obtain ⟨x2, h2⟩ : ∃ x, (a2 == b2) = x := ⟨_, rfl⟩
  obtain ⟨x3, h3⟩ : ∃ x, (a3 == b3) = x := ⟨_, rfl⟩
  obtain ⟨x4, h4⟩ : ∃ x, (a4 == b4) = x := ⟨_, rfl⟩
  obtain ⟨x5, h5⟩ : ∃ x, (a5 == b5) = x := ⟨_, rfl⟩
  obtain ⟨x6, h6⟩ : ∃ x, (a6 == b6) = x := ⟨_, rfl⟩
  obtain ⟨x7, h7⟩ : ∃ x, (a7 == b7) = x := ⟨_, rfl⟩
  obtain ⟨x8, h8⟩ : ∃ x, (a8 == b8) = x := ⟨_, rfl⟩
  obtain ⟨xe, he⟩ : ∃ x, esEq es fs = x := ⟨_, rfl⟩
  obtain ⟨xn, hn⟩ : ∃ x, snEq ⟨a0, a1, a2, a3, a4, a5, a6, a7, a8, es, a9, a10, sn, sd⟩ ⟨b0, b1, b2, b3, b4, b5, b6, b7, b8, fs, b9, b10, tn, td⟩ = x := ⟨_, rfl⟩
  have hq : ltEq ⟨a0, a1, a2, a3, a4, a5, a6, a7, a8, es, a9, a10, sn, sd⟩ ⟨b0, b1, b2, b3, b4, b5, b6, b7, b8, fs, b9, b10, tn, td⟩ = (x0 && x1 && x2 && x3 && x4 && x5 && x6 && x7 && x8 && xe && xn) := by simp only [ltEq, hn, he, h0, h1, h2, h3, h4, h5, h6, h7, h8]
  rw [hq]
  rw [he] at hse
  rw [hn] at HSS
  clear hq he hn hm hb1 hb2 hsz hu hv
  go_enter Tryd.func15, Tryd.ntmps15
  go_wp2_with (fail)
  refine hse.mono ?_
  rintro e w2 ⟨rfl, hm2⟩
  have HM2 := Lib.hid (md_then HM.out hm2)
  have hb12 := HB1.out.mod hm2 (fun h => h)
  have hb22 := HB2.out.mod hm2 (fun h => h)
  have HB12 := Lib.hid hb12
  have HB22 := Lib.hid hb22
  have c0 : w2.cell? ⟨w.heap.size, 0, none⟩ = some (.int .i64 a0) := hb12.cell 0
  have c1 : w2.cell? ⟨w.heap.size, 1, none⟩ = some (.int .i64 a1) := hb12.cell 1
  have c2 : w2.cell? ⟨w.heap.size, 2, none⟩ = some (.int .i64 a2) := hb12.cell 2
  have c3 : w2.cell? ⟨w.heap.size, 3, none⟩ = some (.int .i64 a3) := hb12.cell 3
  have c4 : w2.cell? ⟨w.heap.size, 4, none⟩ = some (.int .i64 a4) := hb12.cell 4
  have c5 : w2.cell? ⟨w.heap.size, 5, none⟩ = some (.int .i64 a5) := hb12.cell 5
  have c6 : w2.cell? ⟨w.heap.size, 6, none⟩ = some (.int .i64 a6) := hb12.cell 6
  have c7 : w2.cell? ⟨w.heap.size, 7, none⟩ = some (.int .i64 a7) := hb12.cell 7
  have c8 : w2.cell? ⟨w.heap.size, 8, none⟩ = some (.bool a8) := hb12.cell 8
  have c9 : w2.cell? ⟨w.heap.size, 9, none⟩ = some (.slice e1 es.length e3) := hb12.cell 9
  have c10 : w2.cell? ⟨w.heap.size, 10, none⟩ = some (.int .i64 a9) := hb12.cell 10
  have c11 : w2.cell? ⟨w.heap.size, 11, none⟩ = some (.int .i64 a10) := hb12.cell 11
  have c12 : w2.cell? ⟨w.heap.size, 12, none⟩ = some (.slice n1 sn.length n3) := hb12.cell 12
  have c13 : w2.cell? ⟨w.heap.size, 13, none⟩ = some (.slice d1 sd.length d3) := hb12.cell 13
  have k0 : w2.cell? ⟨w.heap.size + 1, 0, none⟩ = some (.int .i64 b0) := hb22.cell 0
  have k1 : w2.cell? ⟨w.heap.size + 1, 1, none⟩ = some (.int .i64 b1) := hb22.cell 1
  have k2 : w2.cell? ⟨w.heap.size + 1, 2, none⟩ = some (.int .i64 b2) := hb22.cell 2
  have k3 : w2.cell? ⟨w.heap.size + 1, 3, none⟩ = some (.int .i64 b3) := hb22.cell 3
  have k4 : w2.cell? ⟨w.heap.size + 1, 4, none⟩ = some (.int .i64 b4) := hb22.cell 4
  have k5 : w2.cell? ⟨w.heap.size + 1, 5, none⟩ = some (.int .i64 b5) := hb22.cell 5
  have k6 : w2.cell? ⟨w.heap.size + 1, 6, none⟩ = some (.int .i64 b6) := hb22.cell 6
  have k7 : w2.cell? ⟨w.heap.size + 1, 7, none⟩ = some (.int .i64 b7) := hb22.cell 7
  have k8 : w2.cell? ⟨w.heap.size + 1, 8, none⟩ = some (.bool b8) := hb22.cell 8
  have k9 : w2.cell? ⟨w.heap.size + 1, 9, none⟩ = some (.slice f1 fs.length f3) := hb22.cell 9
  have k10 : w2.cell? ⟨w.heap.size + 1, 10, none⟩ = some (.int .i64 b9) := hb22.cell 10
  have k11 : w2.cell? ⟨w.heap.size + 1, 11, none⟩ = some (.int .i64 b10) := hb22.cell 11
  have k12 : w2.cell? ⟨w.heap.size + 1, 12, none⟩ = some (.slice m1 tn.length m3) := hb22.cell 12
  have k13 : w2.cell? ⟨w.heap.size + 1, 13, none⟩ = some (.slice g1 td.length g3) := hb22.cell 13
  clear hse hm2 HM HB1 HB2 hb12 hb22
  go_wp2_with (fail)
  refine (HSS.out w2 HM2.out).mono ?_
  rintro e w3 ⟨rfl, hm3⟩
  have HM3 := Lib.hid (md_then HM2.out hm3)
  have hb13 := HB12.out.mod hm3 (fun h => h)
  have hb23 := HB22.out.mod hm3 (fun h => h)
  clear c0 k0 c1 k1 c2 k2 c3 k3 c4 k4 c5 k5 c6 k6 c7 k7 c8 k8 c9 k9 c10 k10 c11 k11 c12 k12 c13 k13 HM2 HB12 HB22 HSS hm3
  have c0 : w3.cell? ⟨w.heap.size, 0, none⟩ = some (.int .i64 a0) := hb13.cell 0
  have c1 : w3.cell? ⟨w.heap.size, 1, none⟩ = some (.int .i64 a1) := hb13.cell 1
  have c2 : w3.cell? ⟨w.heap.size, 2, none⟩ = some (.int .i64 a2) := hb13.cell 2
  have c3 : w3.cell? ⟨w.heap.size, 3, none⟩ = some (.int .i64 a3) := hb13.cell 3
  have c4 : w3.cell? ⟨w.heap.size, 4, none⟩ = some (.int .i64 a4) := hb13.cell 4
  have c5 : w3.cell? ⟨w.heap.size, 5, none⟩ = some (.int .i64 a5) := hb13.cell 5
  have c6 : w3.cell? ⟨w.heap.size, 6, none⟩ = some (.int .i64 a6) := hb13.cell 6
  have c7 : w3.cell? ⟨w.heap.size, 7, none⟩ = some (.int .i64 a7) := hb13.cell 7
  have c8 : w3.cell? ⟨w.heap.size, 8, none⟩ = some (.bool a8) := hb13.cell 8
  have c9 : w3.cell? ⟨w.heap.size, 9, none⟩ = some (.slice e1 es.length e3) := hb13.cell 9
  have c10 : w3.cell? ⟨w.heap.size, 10, none⟩ = some (.int .i64 a9) := hb13.cell 10
  have c11 : w3.cell? ⟨w.heap.size, 11, none⟩ = some (.int .i64 a10) := hb13.cell 11
  have c12 : w3.cell? ⟨w.heap.size, 12, none⟩ = some (.slice n1 sn.length n3) := hb13.cell 12
  have c13 : w3.cell? ⟨w.heap.size, 13, none⟩ = some (.slice d1 sd.length d3) := hb13.cell 13
  have k0 : w3.cell? ⟨w.heap.size + 1, 0, none⟩ = some (.int .i64 b0) := hb23.cell 0
  have k1 : w3.cell? ⟨w.heap.size + 1, 1, none⟩ = some (.int .i64 b1) := hb23.cell 1
  have k2 : w3.cell? ⟨w.heap.size + 1, 2, none⟩ = some (.int .i64 b2) := hb23.cell 2
  have k3 : w3.cell? ⟨w.heap.size + 1, 3, none⟩ = some (.int .i64 b3) := hb23.cell 3
  have k4 : w3.cell? ⟨w.heap.size + 1, 4, none⟩ = some (.int .i64 b4) := hb23.cell 4
  have k5 : w3.cell? ⟨w.heap.size + 1, 5, none⟩ = some (.int .i64 b5) := hb23.cell 5
  have k6 : w3.cell? ⟨w.heap.size + 1, 6, none⟩ = some (.int .i64 b6) := hb23.cell 6
  have k7 : w3.cell? ⟨w.heap.size + 1, 7, none⟩ = some (.int .i64 b7) := hb23.cell 7
  have k8 : w3.cell? ⟨w.heap.size + 1, 8, none⟩ = some (.bool b8) := hb23.cell 8
  have k9 : w3.cell? ⟨w.heap.size + 1, 9, none⟩ = some (.slice f1 fs.length f3) := hb23.cell 9
  have k10 : w3.cell? ⟨w.heap.size + 1, 10, none⟩ = some (.int .i64 b9) := hb23.cell 10
  have k11 : w3.cell? ⟨w.heap.size + 1, 11, none⟩ = some (.int .i64 b10) := hb23.cell 11
  have k12 : w3.cell? ⟨w.heap.size + 1, 12, none⟩ = some (.slice m1 tn.length m3) := hb23.cell 12
  have k13 : w3.cell? ⟨w.heap.size + 1, 13, none⟩ = some (.slice g1 td.length g3) := hb23.cell 13
  clear hb13 hb23
  go_wp2_with (fail)
  all_goals
    go_ret
    refine ⟨?_, HM3.out⟩
    show Ending.returned (Value.bool _) = Ending.returned (Value.bool _)
    congr 2
    clear HM3 c0 k0 c1 k1 c2 k2 c3 k3 c4 k4 c5 k5 c6 k6 c7 k7 c8 k8 c9 k9 c10 k10 c11 k11 c12 k12 c13 k13
    simp_all
end Go.Proofs.YtknaaaphdjdaoaaDoor
