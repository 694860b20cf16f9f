/-
  Right, of an LAppend.
-/
import Derived.Test.YtknaaaphdjdaoaaDoorRw
namespace Go.Proofs.YtknaaaphdjdaoaaDoor
open Go.RowKit Mem
set_option linter.unusedVariables false
set_option linter.unusedSimpArgs false

set_option maxRecDepth 100000 in
set_option maxHeartbeats 3200000 in
theorem right_3a (fr tt tm ix lt cm rd : Int) (ok : Bool) (es : List En) (si st : Int) (sn : List Int) (sd : Bs) (ev nv dv : Value) (w : World) (a1 : bw fr 1 5 = true) (a2 : bw tt 1 5 = true) (a3 : (fr == tt) = false) (a4 : bw tm 1 999999 = true) (hel : es.length ≤ 1048576) (hG : (fine0 ⟨3, fr, tt, tm, ix, lt, cm, rd, ok, es, si, st, sn, sd⟩ && entsB ix tm 0 lt es) = true) (h4 : es.length ≤ 4) (h : LV w ev nv dv ⟨3, fr, tt, tm, ix, lt, cm, rd, ok, es, si, st, sn, sd⟩) :
    Calls Tryd.prog 12 #[lval ⟨3, fr, tt, tm, ix, lt, cm, rd, ok, es, si, st, sn, sd⟩ ev nv dv] w fun en w' => en = .returned (.bool (rightB ⟨3, fr, tt, tm, ix, lt, cm, rd, ok, es, si, st, sn, sd⟩)) ∧ Mod (fun _ => False) w w' := by
  have HGG := Lib.hid hG
  clear hG
  have H4 := Lib.hid h4
  clear h4
  unfold lval
  have H := Lib.hid h
  obtain ⟨e1, e2, rfl⟩ := h.1.val
  obtain ⟨n1, n2, rfl⟩ := h.2.1.val
  obtain ⟨h1, A, c, rfl, hdc, hdm⟩ := h.2.2
  simp only at *
  clear h h1 hdc hdm
  obtain ⟨RB, hRB⟩ : ∃ x, rightB ⟨3, fr, tt, tm, ix, lt, cm, rd, ok, es, si, st, sn, sd⟩ = x := ⟨_, rfl⟩
  rw [hRB]
  have HRB := Lib.hid hRB
  clear hRB
  have hh : head0 ⟨3, fr, tt, tm, ix, lt, cm, rd, ok, es, si, st, sn, sd⟩ = true := by unfold head0; simp [a1, a2, a3, a4]
  have HH := Lib.hid hh
  clear hh
  go_enter Tryd.func12, Tryd.ntmps12
  go_wp2_with (fail)
  refine (between_any _ _ _ _).mono ?_
  rintro e w2 ⟨rfl, rfl⟩
  go_wp2_with (fail)
  refine (between_any _ _ _ _).mono ?_
  rintro e w2 ⟨rfl, rfl⟩
  go_wp2_with (fail)
  refine (between_any _ _ _ _).mono ?_
  rintro e w2 ⟨rfl, rfl⟩
  go_upto_region 5 with (fail)
  go_cut [6] (fun v6 wx => v6 = .bool (fine0 ⟨3, fr, tt, tm, ix, lt, cm, rd, ok, es, si, st, sn, sd⟩) ∧ wx = (w.alloc (Obj.cells #[Value.int IntKind.i64 3, Value.int IntKind.i64 fr, Value.int IntKind.i64 tt, Value.int IntKind.i64 tm, Value.int IntKind.i64 ix, Value.int IntKind.i64 lt, Value.int IntKind.i64 cm, Value.int IntKind.i64 rd, Value.bool ok, Value.slice e1 es.length e2, Value.int IntKind.i64 si, Value.int IntKind.i64 st, Value.slice n1 sn.length n2, Value.slice A sd.length c] 28)).alloc (Obj.cells #[Value.int IntKind.i64 3, Value.int IntKind.i64 0, Value.int IntKind.i64 0, Value.int IntKind.i64 0, Value.int IntKind.i64 0, Value.int IntKind.i64 0, Value.int IntKind.i64 0, Value.int IntKind.i64 0, Value.bool false, Value.slice none 0 0, Value.int IntKind.i64 0, Value.int IntKind.i64 0, Value.slice none 0 0, Value.slice none 0 0] 28))
  case first =>
    go_wp2_with (fail)
    refine (between_any _ _ _ _).mono ?_
    rintro e w2 ⟨rfl, rfl⟩
    by_cases b1 : bw ix 0 999999 = true
    rotate_left
    · go_wp2_with (fail)
      go_meet
      case rel => exact ⟨by simp only [Bool.not_eq_true] at b1; simp [fine0, b1], rfl⟩
    go_wp2_with (fail)
    refine (between_any _ _ _ _).mono ?_
    rintro e w2 ⟨rfl, rfl⟩
    by_cases b2 : bw rd 0 1073741824 = true
    rotate_left
    · go_wp2_with (fail)
      go_meet
      case rel => exact ⟨by simp only [Bool.not_eq_true] at b2; simp [fine0, b2], rfl⟩
    go_wp2_with (fail)
    refine (between_any _ _ _ _).mono ?_
    rintro e w2 ⟨rfl, rfl⟩
    by_cases b3 : bw lt 0 tm = true
    rotate_left
    · go_wp2_with (fail)
      go_meet
      case rel => exact ⟨by simp only [Bool.not_eq_true] at b3; simp [fine0, b3], rfl⟩
    go_wp2_with (fail)
    refine (between_any _ _ _ _).mono ?_
    rintro e w2 ⟨rfl, rfl⟩
    go_wp2_with (fail)
    go_meet
    case rel => exact ⟨by simp [fine0, b1, b2, b3], rfl⟩
  case rest =>
    obtain ⟨rfl, rfl⟩ := hcut
    obtain ⟨F, hF⟩ : ∃ F, fine0 ⟨3, fr, tt, tm, ix, lt, cm, rd, ok, es, si, st, sn, sd⟩ = F := ⟨_, rfl⟩
    have HR : Hid (∀ b : Bool, (F && kindR ⟨3, fr, tt, tm, ix, lt, cm, rd, ok, es, si, st, sn, sd⟩) = b → RB = b) := Lib.hid (fun b h => by rw [← HRB.out, ← h]; unfold rightB; rw [HH.out, hF]; rfl)
    rw [hF]
    have HF := Lib.hid hF
    clear hF HH a1 a2 a3 a4
    go_upto_region 15 with (fail)
    go_region
    go_upto_region 16 with (fail)
    go_wp2_with (fail)
    go_loopw [6, 7, 90] (fun v6 v7 v90 wr => ∃ (i : Nat) (G : Bool) (T : Int), v6 = .bool G ∧ v7 = .int .i64 T ∧ v90 = .int .i64 (i : Int) ∧ i ≤ es.length ∧ Hid (G = true → F = true) ∧ Hid ((F && entsB ix tm 0 lt es) = (G && entsB ix tm i T (es.drop i))) ∧ Hid (Blk wr w.heap.size #[.int .i64 3, .int .i64 fr, .int .i64 tt, .int .i64 tm, .int .i64 ix, .int .i64 lt, .int .i64 cm, .int .i64 rd, .bool ok, .slice e1 es.length e2, .int .i64 si, .int .i64 st, .slice n1 sn.length n2, .slice A sd.length c] 28) ∧ Hid (Blk wr (w.heap.size + 1) #[.int .i64 3, .int .i64 0, .int .i64 0, .int .i64 0, .int .i64 ix, .int .i64 lt, .int .i64 cm, .int .i64 rd, .bool false, .slice none 0 0, .int .i64 0, .int .i64 0, .slice none 0 0, .slice none 0 0] 28) ∧ Hid (Mod (fun _ => False) w wr)) (fun _ _ i _ => es.length - (iOf i).toNat)
    case atStart =>
      refine ⟨0, F, lt, rfl, rfl, rfl, by omega, Lib.hid (fun h => h), Lib.hid rfl, Lib.hid ?_, Lib.hid ?_, Lib.hid ?_⟩
      · first | exact blk_one _ _ _ _ | exact (blk_one _ _ _ _).drew
      · first | exact blk_two _ _ _ _ _ | exact (blk_two _ _ _ _ _).drew
      · first | exact ((Mod.refl _ w).alloc _).alloc _ | exact (((Mod.refl _ w).alloc _).alloc _).drew
    case round =>
      obtain ⟨i, G, T, rfl, rfl, rfl, hi, hGF, hE, hB1, hB2, hm⟩ := hrel
      have c3 : wr.cell? ⟨w.heap.size, 3, none⟩ = some (.int .i64 tm) := hB1.out.cell 3
      have c4 : wr.cell? ⟨w.heap.size, 4, none⟩ = some (.int .i64 ix) := hB1.out.cell 4
      by_cases hlt : i < es.length
      · have q1 : (i : Int) < (es.length : Int) := by omega
        obtain ⟨ad, dv, nv, he1, x0, x1, x2, x3, x4, hd, hn⟩ := (H.out.1.mod hm.out).at_ i hlt
        subst he1
        obtain ⟨e, hei⟩ : ∃ e, es[i] = e := ⟨_, rfl⟩
        have hE2 := hE.out
        rw [List.drop_eq_getElem_cons hlt, hei, entsB, ← Bool.and_assoc] at hE2
        rw [hei] at x0 x1 x2 hd hn
        obtain ⟨eix, etm, ekd, edt, end_⟩ := e
        simp only at x0 x1 x2 hd hn
        obtain ⟨dA, dc, rfl⟩ := hd.vl
        obtain ⟨nA, nc, rfl⟩ := hn.val
        have hEV : EnV wr (.agg #[.int .i64 eix, .int .i64 etm, .int .i64 ekd, .slice dA edt.length dc, .slice nA end_.length nc]) ⟨eix, etm, ekd, edt, end_⟩ := ⟨_, _, rfl, hd, hn⟩
        have HEV := Lib.hid hEV
        obtain ⟨R, hR⟩ : ∃ R, entsB ix tm (i + 1) etm (es.drop (i + 1)) = R := ⟨_, rfl⟩
        rw [hR] at hE2
        have HRR := Lib.hid hR
        have HE := Lib.hid hE2
        clear hE hE2 hei hd hn hEV hR
        cases G with
        | false =>
          have HE3 : Hid ((F && entsB ix tm 0 lt es) = (false && entsB ix tm (i + 1) etm (es.drop (i + 1)))) := Lib.hid (by rw [HE.out]; rfl)
          go_wp2_with (fail)
          refine ⟨⟨i + 1, false, etm, rfl, rfl, by simp, by omega, Lib.hid (fun h => by cases h), HE3, Lib.hid (hB1.out.alloc _), Lib.hid (hB2.out.alloc _), Lib.hid (hm.out.alloc _)⟩, ?_⟩
          simp only [iOf]
          omega
        | true =>
          go_wp2_with (fail)
          refine (entry_any _ _ _ (HEV.out.mod ((Mod.refl _ wr).alloc _))).mono ?_
          rintro en w2 ⟨rfl, hm2⟩
          have hal : Mod (fun _ => False) wr (wr.alloc (.cells #[.int .i64 eix, .int .i64 etm, .int .i64 ekd, .slice dA edt.length dc, .slice nA end_.length nc] 45)) := (Mod.refl _ wr).alloc _
          have HM2 := Lib.hid (md_then hm.out (md_then hal hm2))
          have HB12 := Lib.hid (hB1.out.mod (md_then hal hm2) (fun h => h))
          have HB22 := Lib.hid (hB2.out.mod (md_then hal hm2) (fun h => h))
          have HBE := Lib.hid ((Blk.new wr #[.int .i64 eix, .int .i64 etm, .int .i64 ekd, .slice dA edt.length dc, .slice nA end_.length nc] 45).mod hm2 (fun h => h))
          have hixb : 0 ≤ ix ∧ ix ≤ 999999 := by
            have h1 := HF.out
            rw [hGF.out (by first | rfl | trivial)] at h1
            simp only [fine0, Bool.and_eq_true] at h1
            have h2 := h1.1.1.1
            unfold bw at h2
            rw [Bool.and_eq_true] at h2
            exact ⟨of_decide_eq_true h2.1, of_decide_eq_true h2.2⟩
          have hw1 : IntKind.i64.wrap (ix + 1) = ix + 1 := by rw [IntKind.wrap_i64]; omega
          have hw2 : IntKind.i64.wrap (ix + 1 + (i : Int)) = ix + 1 + (i : Int) := by rw [IntKind.wrap_i64]; omega
          clear hal hm2 x0 x1 x2 x3 x4 c3 c4
          have c3 : w2.cell? ⟨w.heap.size, 3, none⟩ = some (.int .i64 tm) := HB12.out.cell 3
          have c4 : w2.cell? ⟨w.heap.size, 4, none⟩ = some (.int .i64 ix) := HB12.out.cell 4
          have b0 : w2.cell? ⟨wr.heap.size, 0, none⟩ = some (.int .i64 eix) := HBE.out.cell 0
          have b1 : w2.cell? ⟨wr.heap.size, 1, none⟩ = some (.int .i64 etm) := HBE.out.cell 1
          cases hx : entryB ⟨eix, etm, ekd, edt, end_⟩ with
          | false =>
            have HE3 : Hid ((F && entsB ix tm 0 lt es) = (false && entsB ix tm (i + 1) etm (es.drop (i + 1)))) := Lib.hid (by rw [HE.out, hx]; rfl)
            clear hx
            go_wp2_with (fail)
            refine ⟨⟨i + 1, false, etm, rfl, rfl, by simp, by omega, Lib.hid (fun h => by cases h), HE3, Lib.hid (HB12.out), Lib.hid (HB22.out), Lib.hid (HM2.out)⟩, ?_⟩
            simp only [iOf]
            omega
          | true =>
            by_cases hy : eix = ix + 1 + (i : Int)
            · have hy2 : (eix == ix + 1 + (i : Int)) = true := by simp [hy]
              have HE3 : Hid ((F && entsB ix tm 0 lt es) = (bw etm T tm && entsB ix tm (i + 1) etm (es.drop (i + 1)))) := Lib.hid (by rw [HE.out, hx, hy2, HRR.out]; simp)
              clear hx hy
              go_wp2_with (fail)
              refine (between_any _ _ _ _).mono ?_
              rintro en w3 ⟨rfl, rfl⟩
              go_wp2_with (fail)
              refine ⟨⟨i + 1, bw etm T tm, etm, rfl, rfl, by simp, by omega, Lib.hid (fun _ => hGF.out (by first | rfl | trivial)), HE3, Lib.hid (HB12.out), Lib.hid (HB22.out), Lib.hid (HM2.out)⟩, ?_⟩
              simp only [iOf]
              omega
            · have hy2 : (eix == ix + 1 + (i : Int)) = false := by simpa using hy
              have HE3 : Hid ((F && entsB ix tm 0 lt es) = (false && entsB ix tm (i + 1) etm (es.drop (i + 1)))) := Lib.hid (by rw [HE.out, hx, hy2]; simp)
              clear hx hy
              go_wp2_with (fail)
              refine ⟨⟨i + 1, false, etm, rfl, rfl, by simp, by omega, Lib.hid (fun h => by cases h), HE3, Lib.hid (HB12.out), Lib.hid (HB22.out), Lib.hid (HM2.out)⟩, ?_⟩
              simp only [iOf]
              omega
      · have q1 : ¬ (i : Int) < (es.length : Int) := by omega
        have hE2 := hE.out
        rw [List.drop_eq_nil_of_le (by omega), entsB, Bool.and_true] at hE2
        have HE := Lib.hid hE2
        clear hE hE2 c3 c4
        have c0 : wr.cell? ⟨w.heap.size, 0, none⟩ = some (.int .i64 3) := hB1.out.cell 0
        have c1 : wr.cell? ⟨w.heap.size, 1, none⟩ = some (.int .i64 fr) := hB1.out.cell 1
        have c2 : wr.cell? ⟨w.heap.size, 2, none⟩ = some (.int .i64 tt) := hB1.out.cell 2
        have c3 : wr.cell? ⟨w.heap.size, 3, none⟩ = some (.int .i64 tm) := hB1.out.cell 3
        have c4 : wr.cell? ⟨w.heap.size, 4, none⟩ = some (.int .i64 ix) := hB1.out.cell 4
        have c5 : wr.cell? ⟨w.heap.size, 5, none⟩ = some (.int .i64 lt) := hB1.out.cell 5
        have c6 : wr.cell? ⟨w.heap.size, 6, none⟩ = some (.int .i64 cm) := hB1.out.cell 6
        have c7 : wr.cell? ⟨w.heap.size, 7, none⟩ = some (.int .i64 rd) := hB1.out.cell 7
        have c8 : wr.cell? ⟨w.heap.size, 8, none⟩ = some (.bool ok) := hB1.out.cell 8
        have c9 : wr.cell? ⟨w.heap.size, 9, none⟩ = some (.slice e1 es.length e2) := hB1.out.cell 9
        have c10 : wr.cell? ⟨w.heap.size, 10, none⟩ = some (.int .i64 si) := hB1.out.cell 10
        have c11 : wr.cell? ⟨w.heap.size, 11, none⟩ = some (.int .i64 st) := hB1.out.cell 11
        have c12 : wr.cell? ⟨w.heap.size, 12, none⟩ = some (.slice n1 sn.length n2) := hB1.out.cell 12
        have c13 : wr.cell? ⟨w.heap.size, 13, none⟩ = some (.slice A sd.length c) := hB1.out.cell 13
        have d0 : wr.cell? ⟨w.heap.size + 1, 0, none⟩ = some (.int .i64 3) := hB2.out.cell 0
        have d1 : wr.cell? ⟨w.heap.size + 1, 1, none⟩ = some (.int .i64 0) := hB2.out.cell 1
        have d2 : wr.cell? ⟨w.heap.size + 1, 2, none⟩ = some (.int .i64 0) := hB2.out.cell 2
        have d3 : wr.cell? ⟨w.heap.size + 1, 3, none⟩ = some (.int .i64 0) := hB2.out.cell 3
        have d4 : wr.cell? ⟨w.heap.size + 1, 4, none⟩ = some (.int .i64 ix) := hB2.out.cell 4
        have d5 : wr.cell? ⟨w.heap.size + 1, 5, none⟩ = some (.int .i64 lt) := hB2.out.cell 5
        have d6 : wr.cell? ⟨w.heap.size + 1, 6, none⟩ = some (.int .i64 cm) := hB2.out.cell 6
        have d7 : wr.cell? ⟨w.heap.size + 1, 7, none⟩ = some (.int .i64 rd) := hB2.out.cell 7
        have d8 : wr.cell? ⟨w.heap.size + 1, 8, none⟩ = some (.bool false) := hB2.out.cell 8
        have d9 : wr.cell? ⟨w.heap.size + 1, 9, none⟩ = some (.slice none 0 0) := hB2.out.cell 9
        have d10 : wr.cell? ⟨w.heap.size + 1, 10, none⟩ = some (.int .i64 0) := hB2.out.cell 10
        have d11 : wr.cell? ⟨w.heap.size + 1, 11, none⟩ = some (.int .i64 0) := hB2.out.cell 11
        have d12 : wr.cell? ⟨w.heap.size + 1, 12, none⟩ = some (.slice none 0 0) := hB2.out.cell 12
        have d13 : wr.cell? ⟨w.heap.size + 1, 13, none⟩ = some (.slice none 0 0) := hB2.out.cell 13
        have HM := hm
        have hgb : G = true := by rw [← HE.out, ← HF.out]; exact HGG.out
        subst hgb
        have h4 := H4.out
        have h4' : (es.length : Int) ≤ 4 := by omega
        have hz : ∀ b, (snap0 ⟨3, fr, tt, tm, ix, lt, cm, rd, ok, es, si, st, sn, sd⟩ && !ok) = b → RB = b := fun b hb => HR.out b (by
          have := HE.out
          unfold kindR
          dsimp only
          rw [if_neg (by decide), if_neg (by decide), if_pos rfl, ← Bool.and_assoc, ← Bool.and_assoc, ← Bool.and_assoc, this, decide_eq_true h4]
          simpa using hb)
        have HZ := Lib.hid hz
        clear hz HE HR HRB hGF
        go_wp2_with (fail)
        all_goals first
          | (exfalso
             omega)
          | (exfalso
             have := List.length_pos_iff.2 (by assumption : ¬ sn = [])
             omega)
          | (go_ret
             refine ⟨?_, HM.out⟩
             rw [HZ.out false (by simp_all [snap0] <;> (intros; first | (simp_all; done) | omega))]
             rfl)
          | (refine (same_any _ _ _ _ _ _ _ _ _ _ _ _ _ _ _ _ _ _ _ _ _ _ _ _ _ _ _).mono ?_
             rintro e w5 ⟨rfl, hm5⟩
             have HM6 := Lib.hid (md_then HM.out hm5)
             clear hm5
             go_wp2_with (fail)
             go_ret
             refine ⟨?_, HM6.out⟩
             exact congrArg (fun b => Ending.returned (Value.bool b)) (HZ.out _ (by rcases sd with _ | ⟨_, _⟩ <;> first | (exfalso; simp only [List.length_cons] at *; omega) | (simp_all [snap0, sameB]; done) | (simp_all [snap0, sameB]; rfl))).symm)
end Go.Proofs.YtknaaaphdjdaoaaDoor
