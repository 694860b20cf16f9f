/-
  The law's large.
-/
import Derived.Test.YtknaaaphdjdaoaaDoorSf
namespace Go.Proofs.YtknaaaphdjdaoaaDoor
open Go.RowKit Mem
set_option linter.unusedVariables false
set_option linter.unusedSimpArgs false

def largeF : Int → List En → Int
  | n, [] => n
  | n, e :: r => if n ≤ 400000 then largeF (n + 400 + e.dt.length + e.nd.length) r else n
def largeB (m : Lt) : Bool := decide (400000 < largeF (m.sd.length + m.sn.length) m.es)
theorem largeF_big {n : Int} (es : List En) (h : ¬ n ≤ 400000) : largeF n es = n := by
  cases es with
  | nil => rfl
  | cons e r => rw [largeF, if_neg h]
/-- What is not large is small. -/
theorem largeF_small : ∀ (es : List En) (n : Int), largeF n es ≤ 400000 → n ≤ 400000 ∧ n + 400 * (es.length : Int) ≤ 400000 ∧ ∀ e ∈ es, n + (e.dt.length : Int) ≤ 400000 ∧ n + (e.nd.length : Int) ≤ 400000
  | [], n, h => ⟨h, by simpa [largeF] using h, by simp⟩
  | e :: r, n, h => by
    by_cases hn : n ≤ 400000
    · rw [largeF, if_pos hn] at h
      obtain ⟨h1, h2, h3⟩ := largeF_small r _ h
      refine ⟨hn, by simp only [List.length_cons]; omega, fun x hx => ?_⟩
      rcases List.mem_cons.1 hx with rfl | hx
      · omega
      · have := h3 x hx
        omega
    · rw [largeF_big _ hn] at h
      exact absurd h hn
set_option maxRecDepth 100000 in
set_option maxHeartbeats 3200000 in
theorem large_any (m : Lt) (ev nv dv : Value) (w : World) (h : LV w ev nv dv m) (b1 : m.es.length ≤ 1048576) (b2 : m.sd.length ≤ 1048576) (b3 : m.sn.length ≤ 1048576) (b4 : ∀ e ∈ m.es, e.dt.length ≤ 1048576 ∧ e.nd.length ≤ 1048576) :
    Calls Tryd.prog 8 #[lval m ev nv dv] w fun e w' => e = .returned (.bool (largeB m)) ∧ Mod (fun _ => False) w w' := by
  obtain ⟨kd, fr, tt, tm, ix, lt, cm, rd, ok, es, si, st, sn, sd⟩ := m
  have H := Lib.hid h
  obtain ⟨e1, e3, rfl⟩ := h.1.val
  obtain ⟨n1, n3, rfl⟩ := h.2.1.val
  obtain ⟨_, d1, d3, rfl, _⟩ := id h.2.2
  unfold lval
  simp only at *
  have hB := Blk.new w #[.int .i64 kd, .int .i64 fr, .int .i64 tt, .int .i64 tm, .int .i64 ix, .int .i64 lt, .int .i64 cm, .int .i64 rd, .bool ok, .slice e1 es.length e3, .int .i64 si, .int .i64 st, .slice n1 sn.length n3, .slice d1 sd.length d3] 28
  have hm : Mod (fun _ => False) w (w.alloc (Obj.cells #[.int .i64 kd, .int .i64 fr, .int .i64 tt, .int .i64 tm, .int .i64 ix, .int .i64 lt, .int .i64 cm, .int .i64 rd, .bool ok, .slice e1 es.length e3, .int .i64 si, .int .i64 st, .slice n1 sn.length n3, .slice d1 sd.length d3] 28)) := (Mod.refl _ w).alloc _
  have hw0 : IntKind.i64.wrap ((sd.length : Int) + (sn.length : Int)) = (sd.length : Int) + (sn.length : Int) := by rw [IntKind.wrap_i64]; omega
  have HB := Lib.hid hB
  have HM := Lib.hid hm
  have HB4 := Lib.hid b4
  obtain ⟨L, hL⟩ : ∃ L, largeF ((sd.length : Int) + (sn.length : Int)) es = L := ⟨_, rfl⟩
  have hLB : largeB ⟨kd, fr, tt, tm, ix, lt, cm, rd, ok, es, si, st, sn, sd⟩ = decide (400000 < L) := by unfold largeB; rw [← hL]
  rw [hLB]
  have HLL := Lib.hid hL
  obtain ⟨N0, hN0⟩ : ∃ N0 : Int, (sd.length : Int) + (sn.length : Int) = N0 := ⟨_, rfl⟩
  have hN0b : 0 ≤ N0 ∧ N0 ≤ 2097152 := by omega
  clear h hB hm b4 hL hLB
  go_enter Tryd.func8, Tryd.ntmps8
  go_wp2_with (fail)
  go_loopw [3, 4] (fun v3 v4 wr => ∃ (i : Nat) (n : Int), v3 = .int .i64 n ∧ v4 = .int .i64 (i : Int) ∧ i ≤ es.length ∧ Hid (0 ≤ n ∧ n ≤ 2500000) ∧ Hid (largeF n (es.drop i) = L) ∧ Hid (Blk wr w.heap.size #[.int .i64 kd, .int .i64 fr, .int .i64 tt, .int .i64 tm, .int .i64 ix, .int .i64 lt, .int .i64 cm, .int .i64 rd, .bool ok, .slice e1 es.length e3, .int .i64 si, .int .i64 st, .slice n1 sn.length n3, .slice d1 sd.length d3] 28) ∧ Hid (Mod (fun _ => False) w wr)) (fun _ i _ => es.length - (iOf i).toNat)
  case atStart =>
    refine ⟨0, N0, ?_, rfl, by omega, Lib.hid (by omega), Lib.hid (by rw [← hN0]; exact HLL.out), HB, HM⟩
    first | rfl | (rw [← hN0])
  case round =>
    obtain ⟨i, n, rfl, rfl, hi, hn, hE, hBr, hm⟩ := hrel
    have c9 : wr.cell? ⟨w.heap.size, 9, none⟩ = some (.slice e1 es.length e3) := hBr.out.cell 9
    by_cases hlt : i < es.length ∧ n ≤ 400000
    · obtain ⟨h1, h2⟩ := hlt
      have q1 : (i : Int) < (es.length : Int) := by omega
      obtain ⟨ad, dv', nv', ha, x0, x1, x2, x3, x4, hd, hnn⟩ := (H.out.1.mod hm.out).row i h1
      subst ha
      obtain ⟨e, he⟩ : ∃ e, es[i] = e := ⟨_, rfl⟩
      have hE2 := hE.out
      rw [List.drop_eq_getElem_cons h1, he, largeF, if_pos h2] at hE2
      have hbe := HB4.out e (by rw [← he]; exact List.getElem_mem _)
      rw [he] at hd hnn
      obtain ⟨_, p1, p3, rfl, _⟩ := id hd
      obtain ⟨r1, r3, rfl⟩ := hnn.val
      obtain ⟨D, hD⟩ : ∃ D : Nat, e.dt.length = D := ⟨_, rfl⟩
      obtain ⟨R, hR⟩ : ∃ R : Nat, e.nd.length = R := ⟨_, rfl⟩
      rw [hD, hR] at hE2 hbe
      rw [hD] at x3
      rw [hR] at x4
      have hn2 := hn.out
      have hwa : IntKind.i64.wrap (n + 400) = n + 400 := by rw [IntKind.wrap_i64]; omega
      have hwb : IntKind.i64.wrap (n + 400 + (D : Int)) = n + 400 + (D : Int) := by rw [IntKind.wrap_i64]; omega
      have hwc : IntKind.i64.wrap (n + 400 + (D : Int) + (R : Int)) = n + 400 + (D : Int) + (R : Int) := by rw [IntKind.wrap_i64]; omega
      have HE := Lib.hid hE2
      have HN := Lib.hid (show 0 ≤ n + 400 + (D : Int) + (R : Int) ∧ n + 400 + (D : Int) + (R : Int) ≤ 2500000 by omega)
      have u9 := calm_cell c9
      have u3 := calm_cell x3
      have u4 := calm_cell x4
      clear x0 x1 x2 hd hnn hE hE2 he hD hR hbe hn2
      go_wp2_with (fail)
      refine region_calm (by kernel_rfl) (by kernel_rfl) ?_
      repeat (go_big_quiet_step (fail))
      refine calm_end (fun w9 hm9 => ?_)
      have Hm9 := Lib.hid (md_then hm.out hm9)
      have HB9 := Lib.hid (hBr.out.mod hm9 (fun h => h))
      clear hm9 u9 u3 u4 c9 x3 x4
      go_wp2_with (fail)
      refine ⟨⟨i + 1, _, rfl, by simp, by omega, HN, HE, HB9, Hm9⟩, ?_⟩
      simp only [iOf]
      omega
    · have q1 : (i : Int) < (es.length : Int) → ¬ n ≤ 400000 := by omega
      have hz : L = n := by
        rw [← hE.out]
        by_cases h1 : i < es.length
        · exact largeF_big _ (by omega)
        · rw [List.drop_eq_nil_of_le (by omega)]; rfl
      have HZ := Lib.hid hz
      clear hz hE
      go_wp2_with (fail)
      all_goals
        go_ret
        refine ⟨?_, hm.out⟩
        rw [HZ.out]
        first
          | rfl
          | (rw [decide_eq_true (by omega : (400000 : Int) < n)]
             rfl)
end Go.Proofs.YtknaaaphdjdaoaaDoor
