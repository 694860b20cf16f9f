/-
  Encode, of more letters.
  Encode, of an LAppend.
-/
import Derived.Test.YtknaaaphdjdaoaaDoorEc
import Derived.Test.YtknaaaphdjdaoaaDoorEh
import Derived.Test.YtknaaaphdjdaoaaDoorPe
import Derived.Test.YtknaaaphdjdaoaaDoorSf
section
namespace Go.Proofs.YtknaaaphdjdaoaaDoor
open Go.RowKit Mem
set_option linter.unusedVariables false
set_option linter.unusedSimpArgs false

set_option maxRecDepth 100000 in
set_option maxHeartbeats 3200000 in
/-- Encode of an LAsk. -/
theorem enc_1 (fr tt tm ix lt cm rd si st : Int) (ok : Bool) (e1 n1 d1 : Option Addr) (e2 e3 n2 n3 d2 d3 : Nat) (w : World) (b1 : 0 ≤ fr ∧ fr ≤ 1000000) (b2 : 0 ≤ tt ∧ tt ≤ 1000000) (b3 : 0 ≤ tm ∧ tm ≤ 1000000) (b4 : 0 ≤ ix ∧ ix ≤ 1000000) (b5 : 0 ≤ lt ∧ lt ≤ 1000000) (hr : ∀ w', Mod (fun _ => False) w w' → Calls Tryd.prog 12 #[.agg #[.int .i64 1, .int .i64 fr, .int .i64 tt, .int .i64 tm, .int .i64 ix, .int .i64 lt, .int .i64 cm, .int .i64 rd, .bool ok, .slice e1 e2 e3, .int .i64 si, .int .i64 st, .slice n1 n2 n3, .slice d1 d2 d3]] w' fun en w2 => en = .returned (.bool true) ∧ Mod (fun _ => False) w' w2) :
    Calls Tryd.prog 11 #[.agg #[.int .i64 1, .int .i64 fr, .int .i64 tt, .int .i64 tm, .int .i64 ix, .int .i64 lt, .int .i64 cm, .int .i64 rd, .bool ok, .slice e1 e2 e3, .int .i64 si, .int .i64 st, .slice n1 n2 n3, .slice d1 d2 d3]] w fun e w' => ∃ v, e = .returned (.tuple #[v, .int .i64 0]) ∧ Ob w w' v (pnz [1, fr, tt, tm] ++ pnz [ix, lt]) ∧ Mod (fun _ => False) w w' := by
  have hr1 := hr _ ((Mod.refl _ w).alloc (Obj.cells #[.int .i64 1, .int .i64 fr, .int .i64 tt, .int .i64 tm, .int .i64 ix, .int .i64 lt, .int .i64 cm, .int .i64 rd, .bool ok, .slice e1 e2 e3, .int .i64 si, .int .i64 st, .slice n1 n2 n3, .slice d1 d2 d3] 28))
  have hB := Blk.new w #[.int .i64 1, .int .i64 fr, .int .i64 tt, .int .i64 tm, .int .i64 ix, .int .i64 lt, .int .i64 cm, .int .i64 rd, .bool ok, .slice e1 e2 e3, .int .i64 si, .int .i64 st, .slice n1 n2 n3, .slice d1 d2 d3] 28
  clear hr
  go_enter Tryd.func11, Tryd.ntmps11
  go_wp2_with (fail)
  refine hr1.mono ?_
  rintro e w2 ⟨rfl, hm⟩
  have HB := Lib.hid (hB.mod hm (fun h => h))
  have HM := Lib.hid (md_al hm)
  have c0 : w2.cell? ⟨w.heap.size, 0, none⟩ = some (.int .i64 1) := HB.out.cell 0
  have c1 : w2.cell? ⟨w.heap.size, 1, none⟩ = some (.int .i64 fr) := HB.out.cell 1
  have c2 : w2.cell? ⟨w.heap.size, 2, none⟩ = some (.int .i64 tt) := HB.out.cell 2
  have c3 : w2.cell? ⟨w.heap.size, 3, none⟩ = some (.int .i64 tm) := HB.out.cell 3
  clear hm hr1 hB
  go_wp2_with (fail)
  refine (put_any w (.slice none 0 0) [] [1, fr, tt, tm] _ 4 rfl (fun j z hj => by
    rcases j with _ | _ | _ | _ | j <;> simp at hj ⊢ <;> exact hj) (by
    intro z hz
    simp only [List.mem_cons, List.not_mem_nil, or_false] at hz
    rcases hz with rfl | rfl | rfl | rfl <;> omega) (by simp) w2 (.inl ⟨rfl, rfl⟩) HM.out).mono ?_
  rintro e w3 ⟨v3, rfl, hO3, hm3, hx3⟩
  rw [List.nil_append] at hO3
  have HB3 := Lib.hid (HB.out.mod hx3.1 (fun h => by simp [Value.ownBlock] at h))
  have HO3 := Lib.hid (And.intro hO3 hm3)
  have hl3 : (pnz [1, fr, tt, tm]).length ≤ 44 := pnz_len _
  have HL3 := Lib.hid hl3
  obtain ⟨a3, q3, rfl⟩ := hO3.val
  clear c0 c1 c2 c3 hO3 hm3 hx3 HB HM hl3
  have c0 : w3.cell? ⟨w.heap.size, 0, none⟩ = some (.int .i64 1) := HB3.out.cell 0
  have c4 : w3.cell? ⟨w.heap.size, 4, none⟩ = some (.int .i64 ix) := HB3.out.cell 4
  have c5 : w3.cell? ⟨w.heap.size, 5, none⟩ = some (.int .i64 lt) := HB3.out.cell 5
  go_wp2_with (fail)
  refine (put_any w _ _ [ix, lt] _ 2 rfl (fun j z hj => by
    rcases j with _ | _ | j <;> simp at hj ⊢ <;> exact hj) (by
    intro z hz
    simp only [List.mem_cons, List.not_mem_nil, or_false] at hz
    rcases hz with rfl | rfl <;> (try unfold bitN) <;> (try split) <;> omega) (by have := HL3.out; simp; omega) _ HO3.out.1 HO3.out.2).mono ?_
  rintro e w4 ⟨v4, rfl, hO4, hm4, _⟩
  have HF := Lib.hid (And.intro hO4 hm4)
  clear hO4 hm4 HO3
  go_wp2_with (fail)
  go_ret2
  exact ⟨_, rfl, HF.out.1, HF.out.2⟩
end Go.Proofs.YtknaaaphdjdaoaaDoor
end
section
namespace Go.Proofs.YtknaaaphdjdaoaaDoor
open Go.RowKit Mem
set_option linter.unusedVariables false
set_option linter.unusedSimpArgs false

/-- What an entry of a right LAppend is. -/
def EnOk (e : En) : Prop := (0 ≤ e.tm ∧ e.tm ≤ 1000000) ∧ (e.kd = 0 ∨ e.kd = 1 ∨ e.kd = 2) ∧ e.dt.length ≤ 8000 ∧ (e.kd = 2 → e.nd ≠ [] ∧ e.nd.length ≤ 5 ∧ ∀ z ∈ e.nd, 0 ≤ z ∧ z ≤ 5)
theorem encEn0 (x t : Int) (d : Bs) (n : List Int) : encEn ⟨x, t, 0, d, n⟩ = pnz [t, 0] := by simp [encEn]
theorem encEn1 (x t : Int) (d : Bs) (n : List Int) : encEn ⟨x, t, 1, d, n⟩ = pnz [t, 1] ++ (pnz [(d.length : Int)] ++ d) := by simp [encEn]
theorem encEn2 (x t : Int) (d : Bs) (n : List Int) : encEn ⟨x, t, 2, d, n⟩ = pnz [t, 2] ++ (pnz [(n.length : Int)] ++ pnz n) := by simp [encEn]
theorem enc3_fin {w W : World} {v : Value} {P0 P1 L3 P L : Bs} {es : List En} {i : Nat} (e3 : P0 = L3) (e4 : L3 ++ P1 = P) (hz : es.take i = es) (hE : P ++ (es.take i).flatMap encEn = L) (h : Ob w W v L ∧ Mod (fun _ => False) w W) :
    Ob w W v (P0 ++ (P1 ++ es.flatMap encEn)) ∧ Mod (fun _ => False) w W := by
  subst e3 e4 hE
  rw [hz] at h
  rw [← List.append_assoc]
  exact h
set_option maxRecDepth 100000 in
set_option maxHeartbeats 25600000 in
theorem enc_3 (fr tt tm ix lt cm rd si st : Int) (ok : Bool) (es : List En) (e1 n1 d1 : Option Addr) (e3 n2 n3 d2 d3 : Nat) (w : World) (b1 : 0 ≤ fr ∧ fr ≤ 1000000) (b2 : 0 ≤ tt ∧ tt ≤ 1000000) (b3 : 0 ≤ tm ∧ tm ≤ 1000000) (b4 : 0 ≤ ix ∧ ix ≤ 1000000) (b5 : 0 ≤ lt ∧ lt ≤ 1000000) (b6 : 0 ≤ cm ∧ cm ≤ 1000000) (b7 : 0 ≤ rd ∧ rd ≤ 1073741824) (b8 : es.length ≤ 4) (b9 : ∀ e ∈ es, EnOk e) (hes : RE w (.slice e1 es.length e3) es) (hr : ∀ w', Mod (fun _ => False) w w' → Calls Tryd.prog 12 #[.agg #[.int .i64 3, .int .i64 fr, .int .i64 tt, .int .i64 tm, .int .i64 ix, .int .i64 lt, .int .i64 cm, .int .i64 rd, .bool ok, .slice e1 es.length e3, .int .i64 si, .int .i64 st, .slice n1 n2 n3, .slice d1 d2 d3]] w' fun en w2 => en = .returned (.bool true) ∧ Mod (fun _ => False) w' w2) :
    Calls Tryd.prog 11 #[.agg #[.int .i64 3, .int .i64 fr, .int .i64 tt, .int .i64 tm, .int .i64 ix, .int .i64 lt, .int .i64 cm, .int .i64 rd, .bool ok, .slice e1 es.length e3, .int .i64 si, .int .i64 st, .slice n1 n2 n3, .slice d1 d2 d3]] w fun e w' => ∃ v, e = .returned (.tuple #[v, .int .i64 0]) ∧ Ob w w' v (pnz [3, fr, tt, tm] ++ pnz [ix, lt, cm, rd, (es.length : Int)] ++ es.flatMap encEn) ∧ Mod (fun _ => False) w w' := by
  have HES := Lib.hid hes
  have HE9 := Lib.hid b9
  clear hes b9
  have hr1 := hr _ ((Mod.refl _ w).alloc (Obj.cells #[.int .i64 3, .int .i64 fr, .int .i64 tt, .int .i64 tm, .int .i64 ix, .int .i64 lt, .int .i64 cm, .int .i64 rd, .bool ok, .slice e1 es.length e3, .int .i64 si, .int .i64 st, .slice n1 n2 n3, .slice d1 d2 d3] 28))
  have hB := Blk.new w #[.int .i64 3, .int .i64 fr, .int .i64 tt, .int .i64 tm, .int .i64 ix, .int .i64 lt, .int .i64 cm, .int .i64 rd, .bool ok, .slice e1 es.length e3, .int .i64 si, .int .i64 st, .slice n1 n2 n3, .slice d1 d2 d3] 28
  clear hr
  go_enter Tryd.func11, Tryd.ntmps11
  go_wp2_with (fail)
  refine hr1.mono ?_
  rintro e w2 ⟨rfl, hm⟩
  have HB := Lib.hid (hB.mod hm (fun h => h))
  have HM := Lib.hid (md_al hm)
  have c0 : w2.cell? ⟨w.heap.size, 0, none⟩ = some (.int .i64 3) := HB.out.cell 0
  have c1 : w2.cell? ⟨w.heap.size, 1, none⟩ = some (.int .i64 fr) := HB.out.cell 1
  have c2 : w2.cell? ⟨w.heap.size, 2, none⟩ = some (.int .i64 tt) := HB.out.cell 2
  have c3 : w2.cell? ⟨w.heap.size, 3, none⟩ = some (.int .i64 tm) := HB.out.cell 3
  clear hm hr1 hB
  go_wp2_with (fail)
  refine (put_any w (.slice none 0 0) [] [3, fr, tt, tm] _ 4 rfl (fun j z hj => by
    rcases j with _ | _ | _ | _ | j <;> simp at hj ⊢ <;> exact hj) (by
    intro z hz
    simp only [List.mem_cons, List.not_mem_nil, or_false] at hz
    rcases hz with rfl | rfl | rfl | rfl <;> omega) (by simp) w2 (.inl ⟨rfl, rfl⟩) HM.out).mono ?_
  rintro e w3 ⟨v3, rfl, hO3, hm3, hx3⟩
  rw [List.nil_append] at hO3
  obtain ⟨L3, E3⟩ : ∃ L, pnz [3, fr, tt, tm] = L := ⟨_, rfl⟩
  have hl3 : L3.length ≤ 44 := by rw [← E3]; exact pnz_len _
  rw [E3] at hO3
  have HE3 := Lib.hid E3
  clear E3
  have HB3 := Lib.hid (HB.out.mod hx3.1 (fun h => by simp [Value.ownBlock] at h))
  have HO3 := Lib.hid (And.intro hO3 hm3)
  have HL3 := Lib.hid hl3
  obtain ⟨a3, q3, rfl⟩ := hO3.val
  clear c0 c1 c2 c3 hO3 hm3 hx3 HB HM hl3
  have c0 : w3.cell? ⟨w.heap.size, 0, none⟩ = some (.int .i64 3) := HB3.out.cell 0
  have c4 : w3.cell? ⟨w.heap.size, 4, none⟩ = some (.int .i64 ix) := HB3.out.cell 4
  have c5 : w3.cell? ⟨w.heap.size, 5, none⟩ = some (.int .i64 lt) := HB3.out.cell 5
  have c6 : w3.cell? ⟨w.heap.size, 6, none⟩ = some (.int .i64 cm) := HB3.out.cell 6
  have c7 : w3.cell? ⟨w.heap.size, 7, none⟩ = some (.int .i64 rd) := HB3.out.cell 7
  have c9 : w3.cell? ⟨w.heap.size, 9, none⟩ = some (.slice e1 es.length e3) := HB3.out.cell 9
  go_wp2_with (fail)
  refine (put_any w _ _ [ix, lt, cm, rd, (es.length : Int)] _ 5 rfl (fun j z hj => by
    rcases j with _ | _ | _ | _ | _ | j <;> simp at hj ⊢ <;> exact hj) (by
    intro z hz
    simp only [List.mem_cons, List.not_mem_nil, or_false] at hz
    rcases hz with rfl | rfl | rfl | rfl | rfl <;> omega) (by have := HL3.out; simp; omega) _ HO3.out.1 HO3.out.2).mono ?_
  rintro e w4 ⟨v4, rfl, hO4, hm4, hx4⟩
  obtain ⟨P, E4⟩ : ∃ L, L3 ++ pnz [ix, lt, cm, rd, (es.length : Int)] = L := ⟨_, rfl⟩
  have hl4 : P.length ≤ 110 := by rw [← E4, List.length_append]; have := HL3.out; have := pnz_len [ix, lt, cm, rd, (es.length : Int)]; simp only [List.length_cons, List.length_nil] at this; omega
  rw [E4] at hO4
  have HE4 := Lib.hid E4
  have HL4 := Lib.hid hl4
  have HO4 := Lib.hid (And.intro hO4 hm4)
  have c9' : w4.cell? ⟨w.heap.size, 9, none⟩ = some (.slice e1 es.length e3) := (HB3.out.mod hx4.1 (ob_nel HO3.out.1 HB3.out)).cell 9
  obtain ⟨a4, q4, rfl⟩ := hO4.val
  clear E4 hl4 hO4 hm4 hx4 c4 c5 c6 c7 c9 c0 HO3 HB3
  go_wp2_with (fail)
  go_loopw [4, 102] (fun v4 v102 wr => ∃ (i : Nat) (L : Bs) (a : Option Addr) (q : Nat), v4 = .slice a L.length q ∧ v102 = .int .i64 (i : Int) ∧ i ≤ es.length ∧ Hid (L.length ≤ 110 + 8200 * i) ∧ Hid (P ++ (es.take i).flatMap encEn = L) ∧ Hid (Ob w wr (.slice a L.length q) L ∧ Mod (fun _ => False) w wr)) (fun _ i _ => es.length - (iOf i).toNat)
  case atStart => exact ⟨0, P, a4, q4, rfl, rfl, by omega, Lib.hid (by have := HL4.out; omega), Lib.hid (by simp), HO4⟩
  case round =>
    obtain ⟨i, L, a, q, rfl, rfl, hi, hL, hE, hO⟩ := hrel
    by_cases hlt : i < es.length
    · have q1 : (i : Int) < (es.length : Int) := by omega
      obtain ⟨ad, dv, nv, ha, y0, y1, y2, y3, y4, hd, hn⟩ := HES.out.row i hlt
      have x0 := cell_keep hO.out.2 y0 (fun h => h)
      have x1 := cell_keep hO.out.2 y1 (fun h => h)
      have x2 := cell_keep hO.out.2 y2 (fun h => h)
      have x3 := cell_keep hO.out.2 y3 (fun h => h)
      have x4 := cell_keep hO.out.2 y4 (fun h => h)
      clear y0 y1 y2 y3 y4
      subst ha
      obtain ⟨e, he⟩ : ∃ e, es[i] = e := ⟨_, rfl⟩
      have HK : Hid (EnOk e) := Lib.hid (HE9.out e (by rw [← he]; exact List.getElem_mem _))
      have HT : Hid (P ++ (es.take (i + 1)).flatMap encEn = L ++ encEn e) := Lib.hid (by rw [List.take_add_one, List.getElem?_eq_getElem hlt, List.flatMap_append, ← List.append_assoc, hE.out, he]; simp)
      rw [he] at x0 x1 x2 hd hn
      obtain ⟨eix, etm, ekd, edt, end_⟩ := e
      simp only at x0 x1 x2 x3 x4 hd hn
      obtain ⟨_, dA, dc, rfl, _⟩ := id hd
      obtain ⟨nA, nc, rfl⟩ := hn.val
      have HD := Lib.hid (show RdC w (.slice dA edt.length dc) edt from hd)
      have HN := Lib.hid (show RI w (.slice nA end_.length nc) end_ from hn)
      have HLi : Hid (L.length ≤ 33000) := Lib.hid (by have := hL.out; omega)
      clear hE he hd hn
      have HBE := Lib.hid (Blk.new wr #[.int .i64 eix, .int .i64 etm, .int .i64 ekd, .slice dA edt.length dc, .slice nA end_.length nc] 45)
      have HS0 := Lib.hid ((ES.refl hO.out.1 hO.out.2).alloc (Obj.cells #[.int .i64 eix, .int .i64 etm, .int .i64 ekd, .slice dA edt.length dc, .slice nA end_.length nc] 45))
      go_wp2_with (fail)
      refine (put_at w _ _ [etm, ekd] _ 2 rfl (fun j z hj => by
        rcases j with _ | _ | j <;> simp at hj ⊢ <;> exact hj) (by
        intro z hz
        simp only [List.mem_cons, List.not_mem_nil, or_false] at hz
        have := HK.out
        unfold EnOk at this
        simp only at this
        rcases hz with rfl | rfl <;> omega) (by have := HLi.out; simp; omega) _ HS0.out.1 HS0.out.2.1 (by simp)).mono ?_
      rintro e w6 ⟨v6, rfl, hO6, hm6, hx6⟩
      obtain ⟨L6, E6⟩ : ∃ L', L ++ pnz [etm, ekd] = L' := ⟨_, rfl⟩
      have hl6 : L6.length ≤ L.length + 22 := by rw [← E6, List.length_append]; have := pnz_len [etm, ekd]; simp only [List.length_cons, List.length_nil] at this; omega
      rw [E6] at hO6
      have HE6 := Lib.hid E6
      have HL6 := Lib.hid hl6
      have HS6 := Lib.hid (ES.refl hO6 hm6)
      have HB6 := Lib.hid (HBE.out.mod hx6.1 (fun e => by have := ob_lt hO.out.1 e; omega))
      have c2 : w6.cell? ⟨wr.heap.size, 2, none⟩ = some (.int .i64 ekd) := HB6.out.cell 2
      have hnE : ¬ v6.ownBlock = some wr.heap.size := fun e => (hx6.2 _ e).elim (fun h => by have := ob_lt hO.out.1 h; omega) (fun h => by simp at h; omega)
      have HX : Hid (∀ w', Mod (fun b => v6.ownBlock = some b) w6 w' → w'.cell? ⟨wr.heap.size, 3, none⟩ = some (.slice dA edt.length dc) ∧ w'.cell? ⟨wr.heap.size, 4, none⟩ = some (.slice nA end_.length nc)) := Lib.hid (fun w' hm => ⟨(HB6.out.mod hm hnE).cell 3, (HB6.out.mod hm hnE).cell 4⟩)
      clear hnE
      obtain ⟨a6, q6, rfl⟩ := hO6.val
      clear hm6 hx6 hO6 x0 x1 x2 x3 x4 E6 hl6 HS0 HBE
      have HKD := Lib.hid (show ekd = 0 ∨ ekd = 1 ∨ ekd = 2 from HK.out.2.1)
      rcases HKD.out with hk | hk | hk
      · subst hk
        go_wp2_with (fail)
        refine ⟨⟨i + 1, L6, a6, q6, rfl, by simp, by omega, Lib.hid (by have := HL6.out; have := hL.out; omega), Lib.hid (by rw [HT.out, encEn0]; exact HE6.out), Lib.hid ⟨HS6.out.1, HS6.out.2.1⟩⟩, ?_⟩
        simp only [iOf]
        omega
      · subst hk
        have HS := HS6
        have HKK : Hid (edt.length ≤ 8000) := Lib.hid HK.out.2.2.1
        go_wp2_with (fail)
        refine wp_region_held_drew (S := fun w' => Mod (fun b => (Value.slice a6 L6.length q6).ownBlock = some b) w6 w') (by kernel_rfl) (Mod.refl _ w6).drew (fun hHeld => ?_)
        have HS := Lib.hid HS.out.drew
        refine wpAnyH_take (i := 0) (oi := { dst := some 117, op := Op.move (Operand.tmp 4), type := 24, pos := "wire.go:121", after := #[], guard := none }) (v := ?_) rfl (by kernel_rfl) (by kernel_rfl) (by kernel_rfl) (fun _ _ _ h => h) (Or.inl ⟨by rfl, ?_⟩) hHeld ?_
        rotate_left
        · intro w' hSw
          go_simp
          try with_reducible rfl
        try simp only [Act.put, List.setIfInBounds_toArray, List.set_cons_zero, List.set_cons_succ]
        refine wpAnyH_take (i := 1) (oi := { dst := some 118, op := Op.fieldAddr 45 (Operand.tmp 6) 3, type := 0, pos := "wire.go:121", after := #[], guard := none }) (v := ?_) rfl (by kernel_rfl) (by kernel_rfl) (by kernel_rfl) (fun _ _ _ h => h) (Or.inl ⟨by rfl, ?_⟩) hHeld ?_
        rotate_left
        · intro w' hSw
          go_simp
          try with_reducible rfl
        try simp only [Act.put, List.setIfInBounds_toArray, List.set_cons_zero, List.set_cons_succ]
        refine wpAnyH_take (i := 2) (oi := { dst := some 119, op := Op.load 24 (Operand.tmp 118), type := 24, pos := "wire.go:121", after := #[{ on := 1, ground := Ground.data }], guard := none }) (v := ?_) rfl (by kernel_rfl) (by kernel_rfl) (by kernel_rfl) (fun _ _ _ h => h) (Or.inl ⟨by rfl, ?_⟩) hHeld ?_
        rotate_left
        · intro w' hSw
          obtain ⟨y3, y4⟩ := HX.out w' hSw
          go_simp
          try with_reducible rfl
        try simp only [Act.put, List.setIfInBounds_toArray, List.set_cons_zero, List.set_cons_succ]
        refine wpAnyH_take (i := 3) (oi := { dst := some 120, op := Op.call { callee := Callee.builtin Builtin.len, args := #[Operand.tmp 119], argTypes := #[24] }, type := 3, pos := "wire.go:121", after := #[{ on := 2, ground := Ground.data }], guard := none }) (v := ?_) rfl (by kernel_rfl) (by kernel_rfl) (by kernel_rfl) (fun _ _ _ h => h) (Or.inl ⟨by rfl, ?_⟩) hHeld ?_
        rotate_left
        · intro w' hSw
          go_simp
          try with_reducible rfl
        try simp only [Act.put, List.setIfInBounds_toArray, List.set_cons_zero, List.set_cons_succ]
        refine wpAnyH_take (i := 6) (oi := { dst := some 123, op := Op.fieldAddr 45 (Operand.tmp 6) 3, type := 0, pos := "wire.go:121", after := #[], guard := none }) (v := ?_) rfl (by kernel_rfl) (by kernel_rfl) (by kernel_rfl) (fun _ _ _ h => h) (Or.inl ⟨by rfl, ?_⟩) hHeld ?_
        rotate_left
        · intro w' hSw
          go_simp
          try with_reducible rfl
        try simp only [Act.put, List.setIfInBounds_toArray, List.set_cons_zero, List.set_cons_succ]
        refine wpAnyH_take (i := 7) (oi := { dst := some 124, op := Op.load 24 (Operand.tmp 123), type := 24, pos := "wire.go:121", after := #[{ on := 6, ground := Ground.data }], guard := none }) (v := ?_) rfl (by kernel_rfl) (by kernel_rfl) (by kernel_rfl) (fun _ _ _ h => h) (Or.inl ⟨by rfl, ?_⟩) hHeld ?_
        rotate_left
        · intro w' hSw
          obtain ⟨y3, y4⟩ := HX.out w' hSw
          go_simp
          try with_reducible rfl
        try simp only [Act.put, List.setIfInBounds_toArray, List.set_cons_zero, List.set_cons_succ]
        refine wpAnyH_ready (rs := [4]) (by kernel_rfl) (by simp) ?_
        refine AllReadyH.cons (o := { dst := some 121, op := Op.buildSlice 23 1 #[(0, Operand.tmp 120)], type := 23, pos := "wire.go:121", after := #[{ on := 3, ground := Ground.data }], guard := none }) rfl (fun K hK => ?_) ?_
        rotate_left
        · exact AllReadyH.nil
        go_simp
        have HP5 := Lib.hid (Pend.new HS.out ((edt.length : Int)))
        have HS := Lib.hid (HS.out.alloc (Obj.cells #[.int .i64 ((edt.length : Int))] 3))
        refine hK.out _ _ (hHeld.alloc _) (fun hHeld => ?_)
        clear hK K
        try simp only [Act.put, List.setIfInBounds_toArray, List.set_cons_zero, List.set_cons_succ]
        refine wpAnyH_ready (rs := [5]) (by kernel_rfl) (by simp) ?_
        refine AllReadyH.cons (o := { dst := some 122, op := Op.call { callee := Callee.value (Operand.func 25), args := #[Operand.tmp 117, Operand.tmp 121], argTypes := #[24, 23] }, type := 24, pos := "wire.go:121", after := #[{ on := 0, ground := Ground.data }, { on := 4, ground := Ground.data }], guard := none }) rfl (fun K hK => ?_) ?_
        rotate_left
        · exact AllReadyH.nil
        go_simp
        refine (one_any (by have := HKK.out; omega) (by have := HL6.out; have := HLi.out; omega) HS.out HP5.out (by simp)).mono ?_
        rintro e w7 ⟨v7, rfl, hE7, hX7⟩
        obtain ⟨L7, E7⟩ : ∃ L, L6 ++ pnz [(edt.length : Int)] = L := ⟨_, rfl⟩
        have hl7 : L7.length ≤ L6.length + 11 := by rw [← E7, List.length_append]; have := HL6.out; have := pnz_len [(edt.length : Int)]; simp only [List.length_cons, List.length_nil] at this; omega
        rw [E7] at hE7
        have HL7 := Lib.hid hl7
        have HE7 := Lib.hid E7
        have HS := Lib.hid hE7
        obtain ⟨a7, q7, rfl⟩ := hE7.1.val
        clear E7 hl7 hE7 hX7
        refine hK.out _ _ HS.out.2.2.1 (fun hHeld => ?_)
        clear hK K
        try simp only [Act.put, List.setIfInBounds_toArray, List.set_cons_zero, List.set_cons_succ]
        refine wpAnyH_ready (rs := [8]) (by kernel_rfl) (by simp) ?_
        refine AllReadyH.cons (o := { dst := some 125, op := Op.call { callee := Callee.builtin Builtin.append, args := #[Operand.tmp 122, Operand.tmp 124], argTypes := #[24, 24] }, type := 24, pos := "wire.go:121", after := #[{ on := 5, ground := Ground.data }, { on := 7, ground := Ground.data }, { on := 5, ground := Ground.chain }], guard := none }) rfl (fun K hK => ?_) ?_
        rotate_left
        · exact AllReadyH.nil
        obtain ⟨v8, w8, hr8, hE8, hX8⟩ := HS.out.app HD.out.1 (by have := HL7.out; have := HL6.out; have := HLi.out; have := HKK.out; omega)
        refine step_append_run rfl _ _ 24 24 rfl _ _ (by simp [Act.eval]) (by simp [Act.eval]) hr8 ?_
        clear hr8
        obtain ⟨L8, E8⟩ : ∃ L, L7 ++ edt = L := ⟨_, rfl⟩
        have hl8 : L8.length ≤ L7.length + edt.length := by rw [← E8, List.length_append]; have := HL7.out; omega
        rw [E8] at hE8
        have HL8 := Lib.hid hl8
        have HE8 := Lib.hid E8
        have HS := Lib.hid hE8
        obtain ⟨a8, q8, rfl⟩ := hE8.1.val
        clear E8 hl8 hE8 hX8
        refine hK.out _ _ HS.out.2.2.1 (fun hHeld => ?_)
        clear hK K
        try simp only [Act.put, List.setIfInBounds_toArray, List.set_cons_zero, List.set_cons_succ]
        refine wpAnyH_take (i := 9) (oi := { dst := some 4, op := Op.assign (Operand.tmp 125), type := 24, pos := "wire.go:121", after := #[{ on := 8, ground := Ground.data }, { on := 8, ground := Ground.chain }, { on := 0, ground := Ground.phase }, { on := 1, ground := Ground.phase }, { on := 2, ground := Ground.phase }, { on := 3, ground := Ground.phase }, { on := 4, ground := Ground.phase }, { on := 5, ground := Ground.phase }, { on := 6, ground := Ground.phase }, { on := 7, ground := Ground.phase }, { on := 8, ground := Ground.phase }], guard := none }) (v := ?_) rfl (by kernel_rfl) (by kernel_rfl) (by kernel_rfl) (fun _ _ _ h => h) (Or.inl ⟨by rfl, ?_⟩) hHeld ?_
        rotate_left
        · intro w' hSw
          go_simp
          try with_reducible rfl
        try simp only [Act.put, List.setIfInBounds_toArray, List.set_cons_zero, List.set_cons_succ]
        refine wpAnyH_done (by kernel_rfl) ?_ _
        go_wp2_with (fail)
        have hEf : P ++ (es.take (i + 1)).flatMap encEn = L8 := by rw [HT.out, encEn1, ← List.append_assoc, ← List.append_assoc]; rw [HE6.out, HE7.out, HE8.out]
        refine ⟨⟨i + 1, L8, a8, q8, rfl, by simp, by omega, Lib.hid (by have := HL8.out; have := HL7.out; have := HL6.out; have := hL.out; have := HKK.out; omega), Lib.hid hEf, Lib.hid ⟨HS.out.1, HS.out.2.1⟩⟩, ?_⟩
        simp only [iOf]
        omega
      · subst hk
        have HS := HS6
        have HKK : Hid (end_ ≠ [] ∧ end_.length ≤ 5 ∧ ∀ z ∈ end_, 0 ≤ z ∧ z ≤ 5) := Lib.hid (HK.out.2.2.2 rfl)
        go_wp2_with (fail)
        refine wp_region_held_drew (S := fun w' => Mod (fun b => (Value.slice a6 L6.length q6).ownBlock = some b) w6 w') (by kernel_rfl) (Mod.refl _ w6).drew (fun hHeld => ?_)
        have HS := Lib.hid HS.out.drew
        refine wpAnyH_take (i := 0) (oi := { dst := some 128, op := Op.move (Operand.tmp 4), type := 24, pos := "wire.go:123", after := #[], guard := none }) (v := ?_) rfl (by kernel_rfl) (by kernel_rfl) (by kernel_rfl) (fun _ _ _ h => h) (Or.inl ⟨by rfl, ?_⟩) hHeld ?_
        rotate_left
        · intro w' hSw
          go_simp
          try with_reducible rfl
        try simp only [Act.put, List.setIfInBounds_toArray, List.set_cons_zero, List.set_cons_succ]
        refine wpAnyH_take (i := 1) (oi := { dst := some 129, op := Op.fieldAddr 45 (Operand.tmp 6) 4, type := 0, pos := "wire.go:123", after := #[], guard := none }) (v := ?_) rfl (by kernel_rfl) (by kernel_rfl) (by kernel_rfl) (fun _ _ _ h => h) (Or.inl ⟨by rfl, ?_⟩) hHeld ?_
        rotate_left
        · intro w' hSw
          go_simp
          try with_reducible rfl
        try simp only [Act.put, List.setIfInBounds_toArray, List.set_cons_zero, List.set_cons_succ]
        refine wpAnyH_take (i := 2) (oi := { dst := some 130, op := Op.load 23 (Operand.tmp 129), type := 23, pos := "wire.go:123", after := #[{ on := 1, ground := Ground.data }], guard := none }) (v := ?_) rfl (by kernel_rfl) (by kernel_rfl) (by kernel_rfl) (fun _ _ _ h => h) (Or.inl ⟨by rfl, ?_⟩) hHeld ?_
        rotate_left
        · intro w' hSw
          obtain ⟨y3, y4⟩ := HX.out w' hSw
          go_simp
          try with_reducible rfl
        try simp only [Act.put, List.setIfInBounds_toArray, List.set_cons_zero, List.set_cons_succ]
        refine wpAnyH_take (i := 3) (oi := { dst := some 131, op := Op.call { callee := Callee.builtin Builtin.len, args := #[Operand.tmp 130], argTypes := #[23] }, type := 3, pos := "wire.go:123", after := #[{ on := 2, ground := Ground.data }], guard := none }) (v := ?_) rfl (by kernel_rfl) (by kernel_rfl) (by kernel_rfl) (fun _ _ _ h => h) (Or.inl ⟨by rfl, ?_⟩) hHeld ?_
        rotate_left
        · intro w' hSw
          go_simp
          try with_reducible rfl
        try simp only [Act.put, List.setIfInBounds_toArray, List.set_cons_zero, List.set_cons_succ]
        refine wpAnyH_take (i := 6) (oi := { dst := some 134, op := Op.fieldAddr 45 (Operand.tmp 6) 4, type := 0, pos := "wire.go:123", after := #[], guard := none }) (v := ?_) rfl (by kernel_rfl) (by kernel_rfl) (by kernel_rfl) (fun _ _ _ h => h) (Or.inl ⟨by rfl, ?_⟩) hHeld ?_
        rotate_left
        · intro w' hSw
          go_simp
          try with_reducible rfl
        try simp only [Act.put, List.setIfInBounds_toArray, List.set_cons_zero, List.set_cons_succ]
        refine wpAnyH_take (i := 7) (oi := { dst := some 135, op := Op.load 23 (Operand.tmp 134), type := 23, pos := "wire.go:123", after := #[{ on := 6, ground := Ground.data }], guard := none }) (v := ?_) rfl (by kernel_rfl) (by kernel_rfl) (by kernel_rfl) (fun _ _ _ h => h) (Or.inl ⟨by rfl, ?_⟩) hHeld ?_
        rotate_left
        · intro w' hSw
          obtain ⟨y3, y4⟩ := HX.out w' hSw
          go_simp
          try with_reducible rfl
        try simp only [Act.put, List.setIfInBounds_toArray, List.set_cons_zero, List.set_cons_succ]
        refine wpAnyH_ready (rs := [4]) (by kernel_rfl) (by simp) ?_
        refine AllReadyH.cons (o := { dst := some 132, op := Op.buildSlice 23 1 #[(0, Operand.tmp 131)], type := 23, pos := "wire.go:123", after := #[{ on := 3, ground := Ground.data }], guard := none }) rfl (fun K hK => ?_) ?_
        rotate_left
        · exact AllReadyH.nil
        go_simp
        have HP5 := Lib.hid (Pend.new HS.out ((end_.length : Int)))
        have HS := Lib.hid (HS.out.alloc (Obj.cells #[.int .i64 ((end_.length : Int))] 3))
        refine hK.out _ _ (hHeld.alloc _) (fun hHeld => ?_)
        clear hK K
        try simp only [Act.put, List.setIfInBounds_toArray, List.set_cons_zero, List.set_cons_succ]
        refine wpAnyH_ready (rs := [5]) (by kernel_rfl) (by simp) ?_
        refine AllReadyH.cons (o := { dst := some 133, op := Op.call { callee := Callee.value (Operand.func 25), args := #[Operand.tmp 128, Operand.tmp 132], argTypes := #[24, 23] }, type := 24, pos := "wire.go:123", after := #[{ on := 0, ground := Ground.data }, { on := 4, ground := Ground.data }], guard := none }) rfl (fun K hK => ?_) ?_
        rotate_left
        · exact AllReadyH.nil
        go_simp
        refine (one_any (by have := HKK.out; omega) (by have := HL6.out; have := HLi.out; omega) HS.out HP5.out (by simp)).mono ?_
        rintro e w7 ⟨v7, rfl, hE7, hX7⟩
        obtain ⟨L7, E7⟩ : ∃ L, L6 ++ pnz [(end_.length : Int)] = L := ⟨_, rfl⟩
        have hl7 : L7.length ≤ L6.length + 11 := by rw [← E7, List.length_append]; have := HL6.out; have := pnz_len [(end_.length : Int)]; simp only [List.length_cons, List.length_nil] at this; omega
        rw [E7] at hE7
        have HL7 := Lib.hid hl7
        have HE7 := Lib.hid E7
        have HS := Lib.hid hE7
        obtain ⟨a7, q7, rfl⟩ := hE7.1.val
        clear E7 hl7 hE7 hX7
        refine hK.out _ _ HS.out.2.2.1 (fun hHeld => ?_)
        clear hK K
        try simp only [Act.put, List.setIfInBounds_toArray, List.set_cons_zero, List.set_cons_succ]
        refine wpAnyH_ready (rs := [8]) (by kernel_rfl) (by simp) ?_
        refine AllReadyH.cons (o := { dst := some 136, op := Op.call { callee := Callee.value (Operand.func 25), args := #[Operand.tmp 133, Operand.tmp 135], argTypes := #[24, 23] }, type := 24, pos := "wire.go:123", after := #[{ on := 5, ground := Ground.data }, { on := 7, ground := Ground.data }, { on := 5, ground := Ground.chain }], guard := none }) rfl (fun K hK => ?_) ?_
        rotate_left
        · exact AllReadyH.nil
        go_simp
        refine (row_any (fun z hz => by have := HKK.out.2.2 z hz; omega) (by have := HL7.out; have := HL6.out; have := HLi.out; have := HKK.out.2.1; omega) HS.out HN.out HKK.out.1).mono ?_
        rintro e w8 ⟨v8, rfl, hE8, hX8⟩
        obtain ⟨L8, E8⟩ : ∃ L, L7 ++ pnz end_ = L := ⟨_, rfl⟩
        have hl8 : L8.length ≤ L7.length + 11 * end_.length := by rw [← E8, List.length_append]; have := HL7.out; have := pnz_len end_; omega
        rw [E8] at hE8
        have HL8 := Lib.hid hl8
        have HE8 := Lib.hid E8
        have HS := Lib.hid hE8
        obtain ⟨a8, q8, rfl⟩ := hE8.1.val
        clear E8 hl8 hE8 hX8
        refine hK.out _ _ HS.out.2.2.1 (fun hHeld => ?_)
        clear hK K
        try simp only [Act.put, List.setIfInBounds_toArray, List.set_cons_zero, List.set_cons_succ]
        refine wpAnyH_take (i := 9) (oi := { dst := some 4, op := Op.assign (Operand.tmp 136), type := 24, pos := "wire.go:123", after := #[{ on := 8, ground := Ground.data }, { on := 8, ground := Ground.chain }, { on := 0, ground := Ground.phase }, { on := 1, ground := Ground.phase }, { on := 2, ground := Ground.phase }, { on := 3, ground := Ground.phase }, { on := 4, ground := Ground.phase }, { on := 5, ground := Ground.phase }, { on := 6, ground := Ground.phase }, { on := 7, ground := Ground.phase }, { on := 8, ground := Ground.phase }], guard := none }) (v := ?_) rfl (by kernel_rfl) (by kernel_rfl) (by kernel_rfl) (fun _ _ _ h => h) (Or.inl ⟨by rfl, ?_⟩) hHeld ?_
        rotate_left
        · intro w' hSw
          go_simp
          try with_reducible rfl
        try simp only [Act.put, List.setIfInBounds_toArray, List.set_cons_zero, List.set_cons_succ]
        refine wpAnyH_done (by kernel_rfl) ?_ _
        go_wp2_with (fail)
        have hEf : P ++ (es.take (i + 1)).flatMap encEn = L8 := by rw [HT.out, encEn2, ← List.append_assoc, ← List.append_assoc]; rw [HE6.out, HE7.out, HE8.out]
        refine ⟨⟨i + 1, L8, a8, q8, rfl, by simp, by omega, Lib.hid (by have := HL8.out; have := HL7.out; have := HL6.out; have := hL.out; have := HKK.out.2.1; omega), Lib.hid hEf, Lib.hid ⟨HS.out.1, HS.out.2.1⟩⟩, ?_⟩
        simp only [iOf]
        omega
    · have q1 : ¬ (i : Int) < (es.length : Int) := by omega
      have hZ : es.take i = es := List.take_of_length_le (by omega)
      have HZ := Lib.hid hZ
      clear hZ
      go_wp2_with (fail)
      go_ret2
      exact ⟨.slice a L.length q, rfl, enc3_fin HE3.out HE4.out HZ.out hE.out hO.out⟩
end Go.Proofs.YtknaaaphdjdaoaaDoor
end
