/-
  WireApart's walk.
-/
import Derived.Test.YtknaaaphdjdaoaaDoorEj
import Derived.Test.YtknaaaphdjdaoaaDoorLr
import Derived.Test.YtknaaaphdjdaoaaDoorPh
import Derived.Test.YtknaaaphdjdaoaaDoorSw
import Derived.Test.YtknaaaphdjdaoaaDoorSg
namespace Go.Proofs.YtknaaaphdjdaoaaDoor
open Go.RowKit Mem
set_option linter.unusedVariables false
set_option linter.unusedSimpArgs false

theorem svb (a b : Bs) : ((sv a).toList == (sv b).toList) = (a == b) := by rw [sv_toList, sv_toList]
/-- What Encode answers, of a letter that is right or not. -/
def EncZ (r : Bool) (X : Bs) (w : World) (e : Ending) (w' : World) : Prop :=
  (r = true ∧ ∃ v, e = .returned (.tuple #[v, .int .i64 0]) ∧ Ob w w' v X ∧ Mod (fun _ => False) w w') ∨
  (r = false ∧ e = .returned (.tuple #[.slice none 0 0, .int .i64 1]) ∧ Mod (fun _ => False) w w')
theorem EncA.z {m : Lt} {w w' : World} {e : Ending} (h : EncA m w e w') : EncZ (rightB m) (encB m) w e w' := h
/-- What a function that looks alone answers. -/
def LookB (b : Bool) (w : World) (e : Ending) (w' : World) : Prop := e = .returned (.bool b) ∧ Mod (fun _ => False) w w'
def boxL (z : Array Value) : Obj := .cells z 28
set_option maxRecDepth 100000 in
set_option maxHeartbeats 6400000 in
theorem apart_core (z0 z1 z2 z3 z4 z5 z6 z7 z8 z9 z10 z11 z12 z13 y0 y1 y2 y3 y4 y5 y6 y7 y8 y9 y10 y11 y12 y13 : Value) (w : World) (la lb ra rb sm : Bool) (X Y : Bs) (hg : ErrT w)
    (hla : ∀ w', Mod (fun _ => False) w w' → Calls Tryd.prog 8 #[.agg #[z0, z1, z2, z3, z4, z5, z6, z7, z8, z9, z10, z11, z12, z13]] w' (LookB la w'))
    (hlb : ∀ w', Mod (fun _ => False) w w' → Calls Tryd.prog 8 #[.agg #[y0, y1, y2, y3, y4, y5, y6, y7, y8, y9, y10, y11, y12, y13]] w' (LookB lb w'))
    (hea : ∀ w', Mod (fun _ => False) w w' → Calls Tryd.prog 11 #[.agg #[z0, z1, z2, z3, z4, z5, z6, z7, z8, z9, z10, z11, z12, z13]] w' (EncZ ra X w'))
    (heb : ∀ w', Mod (fun _ => False) w w' → Calls Tryd.prog 11 #[.agg #[y0, y1, y2, y3, y4, y5, y6, y7, y8, y9, y10, y11, y12, y13]] w' (EncZ rb Y w'))
    (hsm : ∀ w', Mod (fun _ => False) w w' → Calls Tryd.prog 15 #[.agg #[z0, z1, z2, z3, z4, z5, z6, z7, z8, z9, z10, z11, z12, z13], .agg #[y0, y1, y2, y3, y4, y5, y6, y7, y8, y9, y10, y11, y12, y13]] w' (LookB sm w'))
    (heq : ra = true → rb = true → (X = Y ↔ sm = true)) :
    Calls Tryd.prog 5 #[.agg #[z0, z1, z2, z3, z4, z5, z6, z7, z8, z9, z10, z11, z12, z13], .agg #[y0, y1, y2, y3, y4, y5, y6, y7, y8, y9, y10, y11, y12, y13]] w fun e w' => e = .returned (.bool true) ∧ Mod (fun _ => False) w w' := by
  have HLA := Lib.hid hla
  have HLB := Lib.hid hlb
  have HEA := Lib.hid hea
  have HEB := Lib.hid heb
  have HSM := Lib.hid hsm
  have HEQ := Lib.hid heq
  have HG := Lib.hid hg
  have HB0 : Hid (Blk ((w.alloc (.cells #[z0, z1, z2, z3, z4, z5, z6, z7, z8, z9, z10, z11, z12, z13] 28)).alloc (.cells #[y0, y1, y2, y3, y4, y5, y6, y7, y8, y9, y10, y11, y12, y13] 28)) w.heap.size #[z0, z1, z2, z3, z4, z5, z6, z7, z8, z9, z10, z11, z12, z13] 28 ∧ Blk ((w.alloc (.cells #[z0, z1, z2, z3, z4, z5, z6, z7, z8, z9, z10, z11, z12, z13] 28)).alloc (.cells #[y0, y1, y2, y3, y4, y5, y6, y7, y8, y9, y10, y11, y12, y13] 28)) (w.heap.size + 1) #[y0, y1, y2, y3, y4, y5, y6, y7, y8, y9, y10, y11, y12, y13] 28) := Lib.hid ⟨blk_one _ _ _ _, blk_two _ _ _ _ _⟩
  have HM0 : Hid (Mod (fun _ => False) w ((w.alloc (.cells #[z0, z1, z2, z3, z4, z5, z6, z7, z8, z9, z10, z11, z12, z13] 28)).alloc (.cells #[y0, y1, y2, y3, y4, y5, y6, y7, y8, y9, y10, y11, y12, y13] 28))) := Lib.hid (((Mod.refl _ w).alloc _).alloc _)
  clear hla hlb hea heb hsm heq hg
  go_enter Tryd.func5, Tryd.ntmps5
  go_wp2_with (fail)
  refine (shown_any _ (HG.out.mod HM0.out)).mono ?_
  rintro e w1 ⟨rfl, hm1⟩
  have HM1 := Lib.hid (md_then HM0.out hm1)
  have HB1 := Lib.hid (And.intro (HB0.out.1.mod hm1 (fun h => h)) (HB0.out.2.mod hm1 (fun h => h)))
  clear hm1 HM0 HB0 HG
  have c0 : w1.cell? ⟨w.heap.size, 0, none⟩ = some z0 := HB1.out.1.cell 0
  have c1 : w1.cell? ⟨w.heap.size, 1, none⟩ = some z1 := HB1.out.1.cell 1
  have c2 : w1.cell? ⟨w.heap.size, 2, none⟩ = some z2 := HB1.out.1.cell 2
  have c3 : w1.cell? ⟨w.heap.size, 3, none⟩ = some z3 := HB1.out.1.cell 3
  have c4 : w1.cell? ⟨w.heap.size, 4, none⟩ = some z4 := HB1.out.1.cell 4
  have c5 : w1.cell? ⟨w.heap.size, 5, none⟩ = some z5 := HB1.out.1.cell 5
  have c6 : w1.cell? ⟨w.heap.size, 6, none⟩ = some z6 := HB1.out.1.cell 6
  have c7 : w1.cell? ⟨w.heap.size, 7, none⟩ = some z7 := HB1.out.1.cell 7
  have c8 : w1.cell? ⟨w.heap.size, 8, none⟩ = some z8 := HB1.out.1.cell 8
  have c9 : w1.cell? ⟨w.heap.size, 9, none⟩ = some z9 := HB1.out.1.cell 9
  have c10 : w1.cell? ⟨w.heap.size, 10, none⟩ = some z10 := HB1.out.1.cell 10
  have c11 : w1.cell? ⟨w.heap.size, 11, none⟩ = some z11 := HB1.out.1.cell 11
  have c12 : w1.cell? ⟨w.heap.size, 12, none⟩ = some z12 := HB1.out.1.cell 12
  have c13 : w1.cell? ⟨w.heap.size, 13, none⟩ = some z13 := HB1.out.1.cell 13
  go_wp2_with (fail)
  refine (HLA.out _ HM1.out).mono ?_
  rintro e w2 ⟨rfl, hm2⟩
  have HM2 := Lib.hid (md_then HM1.out hm2)
  have HB2 := Lib.hid (And.intro (HB1.out.1.mod hm2 (fun h => h)) (HB1.out.2.mod hm2 (fun h => h)))
  clear hm2 HB1 HM1
  clear c0 c1 c2 c3 c4 c5 c6 c7 c8 c9 c10 c11 c12 c13
  have c0 : w2.cell? ⟨(w.heap.size + 1), 0, none⟩ = some y0 := HB2.out.2.cell 0
  have c1 : w2.cell? ⟨(w.heap.size + 1), 1, none⟩ = some y1 := HB2.out.2.cell 1
  have c2 : w2.cell? ⟨(w.heap.size + 1), 2, none⟩ = some y2 := HB2.out.2.cell 2
  have c3 : w2.cell? ⟨(w.heap.size + 1), 3, none⟩ = some y3 := HB2.out.2.cell 3
  have c4 : w2.cell? ⟨(w.heap.size + 1), 4, none⟩ = some y4 := HB2.out.2.cell 4
  have c5 : w2.cell? ⟨(w.heap.size + 1), 5, none⟩ = some y5 := HB2.out.2.cell 5
  have c6 : w2.cell? ⟨(w.heap.size + 1), 6, none⟩ = some y6 := HB2.out.2.cell 6
  have c7 : w2.cell? ⟨(w.heap.size + 1), 7, none⟩ = some y7 := HB2.out.2.cell 7
  have c8 : w2.cell? ⟨(w.heap.size + 1), 8, none⟩ = some y8 := HB2.out.2.cell 8
  have c9 : w2.cell? ⟨(w.heap.size + 1), 9, none⟩ = some y9 := HB2.out.2.cell 9
  have c10 : w2.cell? ⟨(w.heap.size + 1), 10, none⟩ = some y10 := HB2.out.2.cell 10
  have c11 : w2.cell? ⟨(w.heap.size + 1), 11, none⟩ = some y11 := HB2.out.2.cell 11
  have c12 : w2.cell? ⟨(w.heap.size + 1), 12, none⟩ = some y12 := HB2.out.2.cell 12
  have c13 : w2.cell? ⟨(w.heap.size + 1), 13, none⟩ = some y13 := HB2.out.2.cell 13
  go_wp2_with (fail)
  refine (HLB.out _ HM2.out).mono ?_
  rintro e w3 ⟨rfl, hm3⟩
  have HM3 := Lib.hid (md_then HM2.out hm3)
  have HB3 := Lib.hid (And.intro (HB2.out.1.mod hm3 (fun h => h)) (HB2.out.2.mod hm3 (fun h => h)))
  clear hm3 HB2 HM2
  clear c0 c1 c2 c3 c4 c5 c6 c7 c8 c9 c10 c11 c12 c13
  cases la with
  | true =>
    go_wp2_with (fail)
    go_ret
    exact ⟨rfl, HM3.out⟩
  | false =>
  cases lb with
  | true =>
    go_wp2_with (fail)
    go_ret
    exact ⟨rfl, HM3.out⟩
  | false =>
  have c0 : w3.cell? ⟨w.heap.size, 0, none⟩ = some z0 := HB3.out.1.cell 0
  have c1 : w3.cell? ⟨w.heap.size, 1, none⟩ = some z1 := HB3.out.1.cell 1
  have c2 : w3.cell? ⟨w.heap.size, 2, none⟩ = some z2 := HB3.out.1.cell 2
  have c3 : w3.cell? ⟨w.heap.size, 3, none⟩ = some z3 := HB3.out.1.cell 3
  have c4 : w3.cell? ⟨w.heap.size, 4, none⟩ = some z4 := HB3.out.1.cell 4
  have c5 : w3.cell? ⟨w.heap.size, 5, none⟩ = some z5 := HB3.out.1.cell 5
  have c6 : w3.cell? ⟨w.heap.size, 6, none⟩ = some z6 := HB3.out.1.cell 6
  have c7 : w3.cell? ⟨w.heap.size, 7, none⟩ = some z7 := HB3.out.1.cell 7
  have c8 : w3.cell? ⟨w.heap.size, 8, none⟩ = some z8 := HB3.out.1.cell 8
  have c9 : w3.cell? ⟨w.heap.size, 9, none⟩ = some z9 := HB3.out.1.cell 9
  have c10 : w3.cell? ⟨w.heap.size, 10, none⟩ = some z10 := HB3.out.1.cell 10
  have c11 : w3.cell? ⟨w.heap.size, 11, none⟩ = some z11 := HB3.out.1.cell 11
  have c12 : w3.cell? ⟨w.heap.size, 12, none⟩ = some z12 := HB3.out.1.cell 12
  have c13 : w3.cell? ⟨w.heap.size, 13, none⟩ = some z13 := HB3.out.1.cell 13
  go_wp2_with (fail)
  refine (HEA.out _ HM3.out).mono ?_
  rintro e w4 h4
  obtain ⟨v4, x4, he4, ht4, hm4, hr4⟩ : ∃ (v4 : Value) (x4 : Int), e = .returned (.tuple #[v4, .int .i64 x4]) ∧ (x4 = 0 → Ob w3 w4 v4 X) ∧ Mod (fun _ => False) w3 w4 ∧ ((ra = true ∧ x4 = 0) ∨ (ra = false ∧ x4 = 1)) := by
    rcases h4 with ⟨h, v, h1, h2, h3⟩ | ⟨h, h1, h3⟩
    · exact ⟨v, 0, h1, fun _ => h2, h3, .inl ⟨h, rfl⟩⟩
    · exact ⟨_, 1, h1, fun h => by omega, h3, .inr ⟨h, rfl⟩⟩
  subst he4
  have HO4 := Lib.hid ht4
  have HR4 := Lib.hid hr4
  clear h4 ht4 hr4
  have HM4 := Lib.hid (md_then HM3.out hm4)
  have HB4 := Lib.hid (And.intro (HB3.out.1.mod hm4 (fun h => h)) (HB3.out.2.mod hm4 (fun h => h)))
  clear hm4 HB3 HM3
  clear c0 c1 c2 c3 c4 c5 c6 c7 c8 c9 c10 c11 c12 c13
  have c0 : w4.cell? ⟨(w.heap.size + 1), 0, none⟩ = some y0 := HB4.out.2.cell 0
  have c1 : w4.cell? ⟨(w.heap.size + 1), 1, none⟩ = some y1 := HB4.out.2.cell 1
  have c2 : w4.cell? ⟨(w.heap.size + 1), 2, none⟩ = some y2 := HB4.out.2.cell 2
  have c3 : w4.cell? ⟨(w.heap.size + 1), 3, none⟩ = some y3 := HB4.out.2.cell 3
  have c4 : w4.cell? ⟨(w.heap.size + 1), 4, none⟩ = some y4 := HB4.out.2.cell 4
  have c5 : w4.cell? ⟨(w.heap.size + 1), 5, none⟩ = some y5 := HB4.out.2.cell 5
  have c6 : w4.cell? ⟨(w.heap.size + 1), 6, none⟩ = some y6 := HB4.out.2.cell 6
  have c7 : w4.cell? ⟨(w.heap.size + 1), 7, none⟩ = some y7 := HB4.out.2.cell 7
  have c8 : w4.cell? ⟨(w.heap.size + 1), 8, none⟩ = some y8 := HB4.out.2.cell 8
  have c9 : w4.cell? ⟨(w.heap.size + 1), 9, none⟩ = some y9 := HB4.out.2.cell 9
  have c10 : w4.cell? ⟨(w.heap.size + 1), 10, none⟩ = some y10 := HB4.out.2.cell 10
  have c11 : w4.cell? ⟨(w.heap.size + 1), 11, none⟩ = some y11 := HB4.out.2.cell 11
  have c12 : w4.cell? ⟨(w.heap.size + 1), 12, none⟩ = some y12 := HB4.out.2.cell 12
  have c13 : w4.cell? ⟨(w.heap.size + 1), 13, none⟩ = some y13 := HB4.out.2.cell 13
  go_wp2_with (fail)
  refine (HEB.out _ HM4.out).mono ?_
  rintro e w5 h5
  obtain ⟨v5, x5, he5, ht5, hm5, hr5⟩ : ∃ (v5 : Value) (x5 : Int), e = .returned (.tuple #[v5, .int .i64 x5]) ∧ (x5 = 0 → Ob w4 w5 v5 Y) ∧ Mod (fun _ => False) w4 w5 ∧ ((rb = true ∧ x5 = 0) ∨ (rb = false ∧ x5 = 1)) := by
    rcases h5 with ⟨h, v, h1, h2, h3⟩ | ⟨h, h1, h3⟩
    · exact ⟨v, 0, h1, fun _ => h2, h3, .inl ⟨h, rfl⟩⟩
    · exact ⟨_, 1, h1, fun h => by omega, h3, .inr ⟨h, rfl⟩⟩
  subst he5
  have HO5 : Hid ((x4 = 0 → Ob w3 w5 v4 X) ∧ (x5 = 0 → Ob w4 w5 v5 Y)) := Lib.hid ⟨fun h => (HO4.out h).mod hm5, ht5⟩
  have HR5 := Lib.hid hr5
  clear h5 ht5 hr5 HO4
  have HM5 := Lib.hid (md_then HM4.out hm5)
  have HB5 := Lib.hid (And.intro (HB4.out.1.mod hm5 (fun h => h)) (HB4.out.2.mod hm5 (fun h => h)))
  clear hm5 HB4 HM4
  clear c0 c1 c2 c3 c4 c5 c6 c7 c8 c9 c10 c11 c12 c13
  have c0 : w5.cell? ⟨w.heap.size, 0, none⟩ = some z0 := HB5.out.1.cell 0
  have c1 : w5.cell? ⟨w.heap.size, 1, none⟩ = some z1 := HB5.out.1.cell 1
  have c2 : w5.cell? ⟨w.heap.size, 2, none⟩ = some z2 := HB5.out.1.cell 2
  have c3 : w5.cell? ⟨w.heap.size, 3, none⟩ = some z3 := HB5.out.1.cell 3
  have c4 : w5.cell? ⟨w.heap.size, 4, none⟩ = some z4 := HB5.out.1.cell 4
  have c5 : w5.cell? ⟨w.heap.size, 5, none⟩ = some z5 := HB5.out.1.cell 5
  have c6 : w5.cell? ⟨w.heap.size, 6, none⟩ = some z6 := HB5.out.1.cell 6
  have c7 : w5.cell? ⟨w.heap.size, 7, none⟩ = some z7 := HB5.out.1.cell 7
  have c8 : w5.cell? ⟨w.heap.size, 8, none⟩ = some z8 := HB5.out.1.cell 8
  have c9 : w5.cell? ⟨w.heap.size, 9, none⟩ = some z9 := HB5.out.1.cell 9
  have c10 : w5.cell? ⟨w.heap.size, 10, none⟩ = some z10 := HB5.out.1.cell 10
  have c11 : w5.cell? ⟨w.heap.size, 11, none⟩ = some z11 := HB5.out.1.cell 11
  have c12 : w5.cell? ⟨w.heap.size, 12, none⟩ = some z12 := HB5.out.1.cell 12
  have c13 : w5.cell? ⟨w.heap.size, 13, none⟩ = some z13 := HB5.out.1.cell 13
  have d0 : w5.cell? ⟨(w.heap.size + 1), 0, none⟩ = some y0 := HB5.out.2.cell 0
  have d1 : w5.cell? ⟨(w.heap.size + 1), 1, none⟩ = some y1 := HB5.out.2.cell 1
  have d2 : w5.cell? ⟨(w.heap.size + 1), 2, none⟩ = some y2 := HB5.out.2.cell 2
  have d3 : w5.cell? ⟨(w.heap.size + 1), 3, none⟩ = some y3 := HB5.out.2.cell 3
  have d4 : w5.cell? ⟨(w.heap.size + 1), 4, none⟩ = some y4 := HB5.out.2.cell 4
  have d5 : w5.cell? ⟨(w.heap.size + 1), 5, none⟩ = some y5 := HB5.out.2.cell 5
  have d6 : w5.cell? ⟨(w.heap.size + 1), 6, none⟩ = some y6 := HB5.out.2.cell 6
  have d7 : w5.cell? ⟨(w.heap.size + 1), 7, none⟩ = some y7 := HB5.out.2.cell 7
  have d8 : w5.cell? ⟨(w.heap.size + 1), 8, none⟩ = some y8 := HB5.out.2.cell 8
  have d9 : w5.cell? ⟨(w.heap.size + 1), 9, none⟩ = some y9 := HB5.out.2.cell 9
  have d10 : w5.cell? ⟨(w.heap.size + 1), 10, none⟩ = some y10 := HB5.out.2.cell 10
  have d11 : w5.cell? ⟨(w.heap.size + 1), 11, none⟩ = some y11 := HB5.out.2.cell 11
  have d12 : w5.cell? ⟨(w.heap.size + 1), 12, none⟩ = some y12 := HB5.out.2.cell 12
  have d13 : w5.cell? ⟨(w.heap.size + 1), 13, none⟩ = some y13 := HB5.out.2.cell 13
  go_wp2_with (fail)
  refine (HSM.out _ HM5.out).mono ?_
  rintro e w6 ⟨rfl, hm6⟩
  have HM6 := Lib.hid (md_then HM5.out hm6)
  have HO6 : Hid ((x4 = 0 → Ob w3 w6 v4 X) ∧ (x5 = 0 → Ob w4 w6 v5 Y)) := Lib.hid ⟨fun h => (HO5.out.1 h).mod hm6, fun h => (HO5.out.2 h).mod hm6⟩
  clear hm6 HM5 HO5 HB5 HSM HEA HEB HLA HLB
  clear c0 c1 c2 c3 c4 c5 c6 c7 c8 c9 c10 c11 c12 c13
  clear d0 d1 d2 d3 d4 d5 d6 d7 d8 d9 d10 d11 d12 d13
  rcases HR4.out with ⟨hra, hx4⟩ | ⟨hra, hx4⟩
  rotate_left
  · subst hx4
    clear HR4 hra HR5
    go_wp2_with (fail)
    go_ret
    exact ⟨rfl, HM6.out⟩
  rcases HR5.out with ⟨hrb, hx5⟩ | ⟨hrb, hx5⟩
  rotate_left
  · subst hx4 hx5
    clear HR4 HR5 hra hrb
    go_wp2_with (fail)
    go_ret
    exact ⟨rfl, HM6.out⟩
  have hq := HEQ.out hra hrb
  subst hx4 hx5
  have t4 := (HO6.out.1 rfl).text
  have t5 := (HO6.out.2 rfl).text
  clear HEQ HR4 HR5 hra hrb HO6
  by_cases hXY : X = Y
  · have hs := hq.1 hXY
    subst hXY hs
    clear hq
    obtain ⟨S, hS⟩ : ∃ S, sv X = S := ⟨_, rfl⟩
    rw [hS] at t4 t5
    clear hS
    go_wp2_with (fail)
    go_ret
    exact ⟨rfl, HM6.out⟩
  · have hs : sm = false := by
      cases sm with
      | true => exact absurd (hq.2 rfl) hXY
      | false => rfl
    subst hs
    have hb : ((sv X).toList == (sv Y).toList) = false := by rw [svb]; simpa using hXY
    obtain ⟨S, hS⟩ : ∃ S, sv X = S := ⟨_, rfl⟩
    obtain ⟨T, hT⟩ : ∃ T, sv Y = T := ⟨_, rfl⟩
    rw [hS, hT] at hb
    rw [hS] at t4
    rw [hT] at t5
    clear hS hT hq hXY
    go_wp2_with (fail)
    go_ret
    exact ⟨rfl, HM6.out⟩
/-- The law's walk, of letters of bounded parts. -/
def LtSmall (m : Lt) : Prop := m.es.length ≤ 1048576 ∧ m.sd.length ≤ 1048576 ∧ m.sn.length ≤ 1048576 ∧ ∀ e ∈ m.es, e.dt.length ≤ 1048576 ∧ e.nd.length ≤ 1048576
theorem wireApart_walk (a b : Lt) (ev nv dv eu nu du : Value) (w : World) (ha : LV w ev nv dv a) (hb : LV w eu nu du b) (ga : LtSmall a) (gb : LtSmall b) (hT : ErrT w) :
    Calls Tryd.prog 5 #[lval a ev nv dv, lval b eu nu du] w fun e w' => e = .returned (.bool true) ∧ Mod (fun _ => False) w w' :=
  apart_core _ _ _ _ _ _ _ _ _ _ _ _ _ _ _ _ _ _ _ _ _ _ _ _ _ _ _ _ w (largeB a) (largeB b) (rightB a) (rightB b) (ltEq a b) (encB a) (encB b) hT
    (fun w' hm => large_any a ev nv dv w' (ha.mod hm) ga.1 ga.2.1 ga.2.2.1 ga.2.2.2)
    (fun w' hm => large_any b eu nu du w' (hb.mod hm) gb.1 gb.2.1 gb.2.2.1 gb.2.2.2)
    (fun w' hm => enc_any a ev nv dv w' ga.1 (ha.mod hm))
    (fun w' hm => enc_any b eu nu du w' gb.1 (hb.mod hm))
    (fun w' hm => same17_any a b ev nv dv eu nu du w' (ha.mod hm) (hb.mod hm))
    (fun h1 h2 => (enc_inj h1 h2).trans (ltEq_iff a b).symm)
end Go.Proofs.YtknaaaphdjdaoaaDoor
