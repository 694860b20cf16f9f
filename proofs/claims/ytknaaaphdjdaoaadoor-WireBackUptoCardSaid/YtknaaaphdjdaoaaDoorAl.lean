/-
  Letters that came in.
-/
import Derived.Test.YtknaaaphdjdaoaaDoorRs
import Derived.Test.YtknaaaphdjdaoaaDoorRows
import Derived.Deep.Slices
import Derived.ChangeSlices
import Derived.Maps.StringElems
namespace Go.Proofs.YtknaaaphdjdaoaaDoor
open Go.RowKit Go.ChangeShapes Go.WideShapes Mem
set_option linter.unusedVariables false
set_option linter.unusedSimpArgs false

theorem bulk_one {H : Type} (d : DataW H) : 1 ≤ Rows.uptoBulk d := by
  cases d with
  | lit l => cases l <;> simp [Rows.uptoBulk]
  | nil => simp [Rows.uptoBulk]
  | ptr d => simp [Rows.uptoBulk]
  | slice elems spare => simp [Rows.uptoBulk]
  | agg parts => simp [Rows.uptoBulk]
  | iface t d => simp [Rows.uptoBulk]
  | map entries => simp [Rows.uptoBulk]
  | held h => simp [Rows.uptoBulk]
theorem bulk_len {H : Type} (l : List (DataW H)) : l.length ≤ Rows.uptoBulkAll l := by
  induction l with
  | nil => simp [Rows.uptoBulkAll]
  | cons x r ih => have := bulk_one x; simp only [Rows.uptoBulkAll, List.length_cons]; omega
theorem bulk_mem {H : Type} {d : DataW H} {l : List (DataW H)} (h : d ∈ l) : Rows.uptoBulk d ≤ Rows.uptoBulkAll l := by
  induction l with
  | nil => cases h
  | cons x r ih =>
    simp only [Rows.uptoBulkAll]
    rcases List.mem_cons.1 h with rfl | h
    · omega
    · have := ih h; omega
theorem byte_of8 {n : Int} (h : (Lit.int .u8 n).wf = true) : ((UInt8.ofNat n.toNat).toNat : Int) = n := by
  have h1 : IntKind.u8.min ≤ n ∧ n ≤ IntKind.u8.max := by simpa [Lit.wf] using h
  have e1 : IntKind.u8.min = 0 := by decide
  have e2 : IntKind.u8.max = 255 := by decide
  simp
  omega
/-- Bytes that came in. -/
def lstU (zs : List Int) (len : Nat) : List UInt8 := (zs.take len).map fun n => UInt8.ofNat n.toNat
section
variable {H : Type} {enc : TypeId × Value → H} {w : World} {held : Bool} {fuel : Nat} {cs : List Value} {x : DataW H × List MemPlace}
theorem bytes_in (h : DataW.trod enc Tryd.prog w 0 (fun _ => true) held fuel 24 cs = some x) : ∃ v l, cs = [v] ∧ RdC w v l ∧ l.length ≤ Rows.uptoBulk x.1 := by
  rcases open_ints Tryd.underlying24 Tryd.underlying5 (by kernel_rfl) h with ⟨rfl, rfl⟩ | ⟨a, len, cap, zs, rfl, _, hl, hm, hz, rfl, hc, hw⟩
  · exact ⟨_, [], rfl, ⟨.inl ⟨rfl, rfl⟩, none, 0, rfl, Nat.le_refl _, Nat.zero_le _⟩, Nat.zero_le _⟩
  · simp only [if_true] at hz
    have hlen : (lstU zs len).length = len := by simp [lstU]; omega
    refine ⟨_, lstU zs len, rfl, ⟨.inr ⟨a, cap, by rw [hlen], fun j u hu => ?_⟩, some a, cap, by rw [hlen], by omega, hm⟩, ?_⟩
    · have hj : j < len := by have := (List.getElem?_eq_some_iff.1 hu).1; rwa [bts_len, hlen] at this
      have h1 := hc j (by omega)
      rw [h1]
      unfold bts lstU at hu
      rw [List.map_map, List.getElem?_map, List.getElem?_take_of_lt hj, List.getElem?_eq_getElem (by omega)] at hu
      injection hu with hu
      rw [← hu, List.getD_eq_getElem?_getD, List.getElem?_eq_getElem (by omega)]
      show some (Value.int .u8 zs[j]) = some (Value.int .u8 _)
      rw [byte_of8 (hw _ (List.getElem_mem _))]
    · simp only [Rows.uptoBulk]
      have h1 := bulk_len (lits (H := H) .u8 (zs.take len))
      have h2 : (lits (H := H) .u8 (zs.take len)).length = len := by simp [lits]; omega
      omega
theorem ints_in (h : DataW.trod enc Tryd.prog w 0 (fun _ => true) held fuel 23 cs = some x) : ∃ v zs, cs = [v] ∧ RI w v zs ∧ zs.length ≤ Rows.uptoBulk x.1 := by
  rcases open_ints Tryd.underlying23 Tryd.underlying3 (by kernel_rfl) h with ⟨rfl, rfl⟩ | ⟨a, len, cap, zs, rfl, _, hl, hm, hz, rfl, hc, hw⟩
  · exact ⟨_, [], rfl, .inl ⟨rfl, rfl⟩, Nat.zero_le _⟩
  · simp only [if_true] at hz
    have hlen : (zs.take len).length = len := by simp; omega
    refine ⟨_, zs.take len, rfl, .inr ⟨a, cap, by rw [hlen], by omega, hm, fun j z hj => ?_⟩, ?_⟩
    · have hj' : j < len := by have := (List.getElem?_eq_some_iff.1 hj).1; omega
      have h1 := hc j (by omega)
      rw [h1, List.getD_eq_getElem?_getD, ← List.getElem?_take_of_lt hj', hj]
      rfl
    · simp only [Rows.uptoBulk]
      have h1 := bulk_len (lits (H := H) .i64 (zs.take len))
      have h2 : (lits (H := H) .i64 (zs.take len)).length = len := by simp [lits]; omega
      omega
set_option maxRecDepth 100000 in
theorem entry_in (h : DataW.trod enc Tryd.prog w 0 (fun _ => true) held fuel 45 cs = some x) : ∃ (e : En) (dv nv : Value), cs = [.int .i64 e.ix, .int .i64 e.tm, .int .i64 e.kd, dv, nv] ∧ RdC w dv e.dt ∧ RI w nv e.nd ∧ e.dt.length ≤ Rows.uptoBulk x.1 ∧ e.nd.length ≤ Rows.uptoBulk x.1 := by
  obtain ⟨xs, n, rfl, rfl, hl, hxl, hf⟩ := DataW.trod_struct Tryd.underlying45 h
  have k3 : Tryd.prog.cellsOf 3 = 1 := by kernel_rfl
  have ky : Tryd.prog.cellsOf 24 = 1 := by kernel_rfl
  have kn : Tryd.prog.cellsOf 23 = 1 := by kernel_rfl
  have kE : Tryd.prog.cellsOf 45 = 5 := by kernel_rfl
  rw [kE] at hl
  match cs, hl with
  | [c0, c1, c2, c3, c4], _ =>
    have x5 : xs.length = 5 := hxl
    have f0 := hf 0 _ rfl
    have f1 := hf 1 _ rfl
    have f2 := hf 2 _ rfl
    have f3 := hf 3 _ rfl
    have f4 := hf 4 _ rfl
    rw [List.getElem?_eq_getElem (by omega)] at f0 f1 f2 f3 f4
    change DataW.trod enc Tryd.prog w 0 _ held n 3 (([c0, c1, c2, c3, c4].drop 0).take (Tryd.prog.cellsOf 3)) = _ at f0
    change DataW.trod enc Tryd.prog w 0 _ held n 3 (([c0, c1, c2, c3, c4].drop 1).take (Tryd.prog.cellsOf 3)) = _ at f1
    change DataW.trod enc Tryd.prog w 0 _ held n 3 (([c0, c1, c2, c3, c4].drop 2).take (Tryd.prog.cellsOf 3)) = _ at f2
    change DataW.trod enc Tryd.prog w 0 _ held n 24 (([c0, c1, c2, c3, c4].drop 3).take (Tryd.prog.cellsOf 24)) = _ at f3
    change DataW.trod enc Tryd.prog w 0 _ held n 23 (([c0, c1, c2, c3, c4].drop 4).take (Tryd.prog.cellsOf 23)) = _ at f4
    rw [k3] at f0 f1 f2
    rw [ky] at f3
    rw [kn] at f4
    obtain ⟨a, e0, _, w0⟩ := DataW.trod_int Tryd.underlying3 f0
    obtain ⟨b, e1, _, w1⟩ := DataW.trod_int Tryd.underlying3 f1
    obtain ⟨k, e2, _, w2⟩ := DataW.trod_int Tryd.underlying3 f2
    obtain ⟨dv, dt, e3, hd, ld⟩ := bytes_in f3
    obtain ⟨nv, nd, e4, hn, ln⟩ := ints_in f4
    simp at e0 e1 e2 e3 e4
    subst e0 e1 e2 e3 e4
    have m3 : (xs[3]).1 ∈ xs.map (·.1) := List.mem_map.2 ⟨_, List.getElem_mem _, rfl⟩
    have m4 : (xs[4]).1 ∈ xs.map (·.1) := List.mem_map.2 ⟨_, List.getElem_mem _, rfl⟩
    have q3 := bulk_mem m3
    have q4 := bulk_mem m4
    refine ⟨⟨a, b, k, dt, nd⟩, _, _, rfl, hd, hn, ?_, ?_⟩ <;> simp only [Rows.uptoBulk] <;> omega
theorem gatherE {n : Nat} {Q : Nat → En → Prop} (h : ∀ i, i < n → ∃ g, Q i g) : ∃ l : List En, l.length = n ∧ ∀ i (hi : i < l.length), Q i l[i] := by
  induction n with
  | zero => exact ⟨[], rfl, fun i hi => by simp at hi⟩
  | succ n ih =>
    obtain ⟨l, hl, hq⟩ := ih (fun i hi => h i (by omega))
    obtain ⟨g, hg⟩ := h n (by omega)
    refine ⟨l ++ [g], by simp [hl], fun i hi => ?_⟩
    by_cases hi2 : i < l.length
    · rw [List.getElem_append_left hi2]; exact hq i hi2
    · have : i = n := by simp at hi; omega
      subst this
      have e : (l ++ [g])[i] = g := by simp [← hl]
      rw [e]; exact hg
theorem ents_in (h : DataW.trod enc Tryd.prog w 0 (fun _ => true) held fuel 22 cs = some x) : ∃ v es, cs = [v] ∧ RE w v es ∧ es.length ≤ Rows.uptoBulk x.1 ∧ ∀ e ∈ es, e.dt.length ≤ Rows.uptoBulk x.1 ∧ e.nd.length ≤ Rows.uptoBulk x.1 := by
  rcases Deep.open_slice Tryd.underlying22 h with ⟨rfl, rfl⟩ | ⟨ad, l, c, m, n, D, Pl, rfl, _, hl, hm, hmm, rfl, hel⟩
  · exact ⟨_, [], rfl, .inl ⟨rfl, rfl⟩, Nat.zero_le _, fun e he => by cases he⟩
  · simp only [if_true] at hmm
    subst hmm
    have kE : Tryd.prog.cellsOf 45 = 5 := by kernel_rfl
    have hone : ∀ i, i < l → ∃ e : En, (∃ dv nv, w.cell? (ad.add (i * 5)) = some (.int .i64 e.ix) ∧ w.cell? ⟨(ad.add (i * 5)).block, (ad.add (i * 5)).off + 1, none⟩ = some (.int .i64 e.tm) ∧ w.cell? ⟨(ad.add (i * 5)).block, (ad.add (i * 5)).off + 2, none⟩ = some (.int .i64 e.kd) ∧ w.cell? ⟨(ad.add (i * 5)).block, (ad.add (i * 5)).off + 3, none⟩ = some dv ∧ w.cell? ⟨(ad.add (i * 5)).block, (ad.add (i * 5)).off + 4, none⟩ = some nv ∧ RdC w dv e.dt ∧ RI w nv e.nd) ∧ e.dt.length ≤ Rows.uptoBulk (D i) ∧ e.nd.length ≤ Rows.uptoBulk (D i) := fun i hi => by
      obtain ⟨cs', h1, h2⟩ := hel i (by omega)
      rw [kE] at h1
      obtain ⟨_, _, hcell⟩ := World.cells?_some h1
      obtain ⟨e, dv, nv, rfl, hd, hn, l1, l2⟩ := entry_in h2
      have q0 := hcell 0 (by omega)
      have q1 := hcell 1 (by omega)
      have q2 := hcell 2 (by omega)
      have q3 := hcell 3 (by omega)
      have q4 := hcell 4 (by omega)
      exact ⟨e, ⟨dv, nv, by simpa [Addr.add] using q0, by simpa [Addr.add] using q1, by simpa [Addr.add] using q2, by simpa [Addr.add] using q3, by simpa [Addr.add] using q4, hd, hn⟩, l1, l2⟩
    obtain ⟨es, hgl, hq⟩ := gatherE hone
    have hD : ∀ i, i < l → Rows.uptoBulk (D i) ≤ Rows.uptoBulkAll ((List.range l).map D) := fun i hi => bulk_mem (List.mem_map.2 ⟨i, List.mem_range.2 hi, rfl⟩)
    have hlen := bulk_len ((List.range l).map D)
    simp only [List.length_map, List.length_range] at hlen
    subst hgl
    refine ⟨_, es, rfl, .inr ⟨ad, m, rfl, hl, hm, fun j e hj => ?_⟩, ?_, fun e he => ?_⟩
    · obtain ⟨hj1, rfl⟩ := List.getElem?_eq_some_iff.1 hj
      exact (hq j hj1).1
    · simp only [Rows.uptoBulk]; omega
    · obtain ⟨i, hi, rfl⟩ := List.getElem_of_mem he
      have h1 := (hq i hi).2
      have h2 := hD i hi
      simp only [Rows.uptoBulk]
      omega
set_option maxRecDepth 100000 in
theorem snap_in (h : DataW.trod enc Tryd.prog w 0 (fun _ => true) held fuel 26 cs = some x) : ∃ (si st : Int) (nv dv : Value) (sn : List Int) (sd : Bs), cs = [.int .i64 si, .int .i64 st, nv, dv] ∧ RI w nv sn ∧ RdC w dv sd ∧ sn.length ≤ Rows.uptoBulk x.1 ∧ sd.length ≤ Rows.uptoBulk x.1 := by
  obtain ⟨xs, n, rfl, rfl, hl, hxl, hf⟩ := DataW.trod_struct Tryd.underlying26 h
  have k3 : Tryd.prog.cellsOf 3 = 1 := by kernel_rfl
  have ky : Tryd.prog.cellsOf 24 = 1 := by kernel_rfl
  have kn : Tryd.prog.cellsOf 23 = 1 := by kernel_rfl
  have kS : Tryd.prog.cellsOf 26 = 4 := by kernel_rfl
  rw [kS] at hl
  match cs, hl with
  | [c0, c1, c2, c3], _ =>
    have x5 : xs.length = 4 := hxl
    have f0 := hf 0 _ rfl
    have f1 := hf 1 _ rfl
    have f2 := hf 2 _ rfl
    have f3 := hf 3 _ rfl
    rw [List.getElem?_eq_getElem (by omega)] at f0 f1 f2 f3
    change DataW.trod enc Tryd.prog w 0 _ held n 3 (([c0, c1, c2, c3].drop 0).take (Tryd.prog.cellsOf 3)) = _ at f0
    change DataW.trod enc Tryd.prog w 0 _ held n 3 (([c0, c1, c2, c3].drop 1).take (Tryd.prog.cellsOf 3)) = _ at f1
    change DataW.trod enc Tryd.prog w 0 _ held n 23 (([c0, c1, c2, c3].drop 2).take (Tryd.prog.cellsOf 23)) = _ at f2
    change DataW.trod enc Tryd.prog w 0 _ held n 24 (([c0, c1, c2, c3].drop 3).take (Tryd.prog.cellsOf 24)) = _ at f3
    rw [k3] at f0 f1
    rw [kn] at f2
    rw [ky] at f3
    obtain ⟨a, e0, _, w0⟩ := DataW.trod_int Tryd.underlying3 f0
    obtain ⟨b, e1, _, w1⟩ := DataW.trod_int Tryd.underlying3 f1
    obtain ⟨nv, sn, e2, hn, ln⟩ := ints_in f2
    obtain ⟨dv, sd, e3, hd, ld⟩ := bytes_in f3
    simp at e0 e1 e2 e3
    subst e0 e1 e2 e3
    have m2 : (xs[2]).1 ∈ xs.map (·.1) := List.mem_map.2 ⟨_, List.getElem_mem _, rfl⟩
    have m3 : (xs[3]).1 ∈ xs.map (·.1) := List.mem_map.2 ⟨_, List.getElem_mem _, rfl⟩
    have q2 := bulk_mem m2
    have q3 := bulk_mem m3
    refine ⟨a, b, _, _, sn, sd, rfl, hn, hd, ?_, ?_⟩ <;> simp only [Rows.uptoBulk] <;> omega
set_option maxRecDepth 100000 in
/-- A letter that came in, of a bulk that bounds its parts. -/
theorem letter_in (h : DataW.trod enc Tryd.prog w 0 (fun _ => true) held fuel 28 cs = some x) : ∃ (m : Lt) (ev nv dv : Value), cs = [.int .i64 m.kd, .int .i64 m.fr, .int .i64 m.tt, .int .i64 m.tm, .int .i64 m.ix, .int .i64 m.lt, .int .i64 m.cm, .int .i64 m.rd, .bool m.ok, ev, .int .i64 m.si, .int .i64 m.st, nv, dv] ∧ LV w ev nv dv m ∧ m.es.length ≤ Rows.uptoBulk x.1 ∧ m.sd.length ≤ Rows.uptoBulk x.1 ∧ m.sn.length ≤ Rows.uptoBulk x.1 ∧ ∀ e ∈ m.es, e.dt.length ≤ Rows.uptoBulk x.1 ∧ e.nd.length ≤ Rows.uptoBulk x.1 := by
  obtain ⟨xs, n, rfl, rfl, hl, hxl, hf⟩ := DataW.trod_struct Tryd.underlying28 h
  have k3 : Tryd.prog.cellsOf 3 = 1 := by kernel_rfl
  have kb : Tryd.prog.cellsOf 4 = 1 := by kernel_rfl
  have ke : Tryd.prog.cellsOf 22 = 1 := by kernel_rfl
  have ks : Tryd.prog.cellsOf 26 = 4 := by kernel_rfl
  have kL : Tryd.prog.cellsOf 28 = 14 := by kernel_rfl
  rw [kL] at hl
  match cs, hl with
  | [c0, c1, c2, c3, c4, c5, c6, c7, c8, c9, c10, c11, c12, c13], _ =>
    have x5 : xs.length = 11 := hxl
    have f0 := hf 0 _ rfl
    have f1 := hf 1 _ rfl
    have f2 := hf 2 _ rfl
    have f3 := hf 3 _ rfl
    have f4 := hf 4 _ rfl
    have f5 := hf 5 _ rfl
    have f6 := hf 6 _ rfl
    have f7 := hf 7 _ rfl
    have f8 := hf 8 _ rfl
    have f9 := hf 9 _ rfl
    have f10 := hf 10 _ rfl
    rw [List.getElem?_eq_getElem (by omega)] at f0 f1 f2 f3 f4 f5 f6 f7 f8 f9 f10
    change DataW.trod enc Tryd.prog w 0 _ held n 3 (([c0, c1, c2, c3, c4, c5, c6, c7, c8, c9, c10, c11, c12, c13].drop 0).take (Tryd.prog.cellsOf 3)) = _ at f0
    change DataW.trod enc Tryd.prog w 0 _ held n 3 (([c0, c1, c2, c3, c4, c5, c6, c7, c8, c9, c10, c11, c12, c13].drop 1).take (Tryd.prog.cellsOf 3)) = _ at f1
    change DataW.trod enc Tryd.prog w 0 _ held n 3 (([c0, c1, c2, c3, c4, c5, c6, c7, c8, c9, c10, c11, c12, c13].drop 2).take (Tryd.prog.cellsOf 3)) = _ at f2
    change DataW.trod enc Tryd.prog w 0 _ held n 3 (([c0, c1, c2, c3, c4, c5, c6, c7, c8, c9, c10, c11, c12, c13].drop 3).take (Tryd.prog.cellsOf 3)) = _ at f3
    change DataW.trod enc Tryd.prog w 0 _ held n 3 (([c0, c1, c2, c3, c4, c5, c6, c7, c8, c9, c10, c11, c12, c13].drop 4).take (Tryd.prog.cellsOf 3)) = _ at f4
    change DataW.trod enc Tryd.prog w 0 _ held n 3 (([c0, c1, c2, c3, c4, c5, c6, c7, c8, c9, c10, c11, c12, c13].drop 5).take (Tryd.prog.cellsOf 3)) = _ at f5
    change DataW.trod enc Tryd.prog w 0 _ held n 3 (([c0, c1, c2, c3, c4, c5, c6, c7, c8, c9, c10, c11, c12, c13].drop 6).take (Tryd.prog.cellsOf 3)) = _ at f6
    change DataW.trod enc Tryd.prog w 0 _ held n 3 (([c0, c1, c2, c3, c4, c5, c6, c7, c8, c9, c10, c11, c12, c13].drop 7).take (Tryd.prog.cellsOf 3)) = _ at f7
    change DataW.trod enc Tryd.prog w 0 _ held n 4 (([c0, c1, c2, c3, c4, c5, c6, c7, c8, c9, c10, c11, c12, c13].drop 8).take (Tryd.prog.cellsOf 4)) = _ at f8
    change DataW.trod enc Tryd.prog w 0 _ held n 22 (([c0, c1, c2, c3, c4, c5, c6, c7, c8, c9, c10, c11, c12, c13].drop 9).take (Tryd.prog.cellsOf 22)) = _ at f9
    change DataW.trod enc Tryd.prog w 0 _ held n 26 (([c0, c1, c2, c3, c4, c5, c6, c7, c8, c9, c10, c11, c12, c13].drop 10).take (Tryd.prog.cellsOf 26)) = _ at f10
    rw [k3] at f0 f1 f2 f3 f4 f5 f6 f7
    rw [kb] at f8
    rw [ke] at f9
    rw [ks] at f10
    obtain ⟨a0, e0, _, w0⟩ := DataW.trod_int Tryd.underlying3 f0
    obtain ⟨a1, e1, _, w1⟩ := DataW.trod_int Tryd.underlying3 f1
    obtain ⟨a2, e2, _, w2⟩ := DataW.trod_int Tryd.underlying3 f2
    obtain ⟨a3, e3, _, w3⟩ := DataW.trod_int Tryd.underlying3 f3
    obtain ⟨a4, e4, _, w4⟩ := DataW.trod_int Tryd.underlying3 f4
    obtain ⟨a5, e5, _, w5⟩ := DataW.trod_int Tryd.underlying3 f5
    obtain ⟨a6, e6, _, w6⟩ := DataW.trod_int Tryd.underlying3 f6
    obtain ⟨a7, e7, _, w7⟩ := DataW.trod_int Tryd.underlying3 f7
    obtain ⟨a8, e8, _⟩ := DataW.trod_bool Tryd.underlying4 f8
    obtain ⟨ev, es, e9, hE, lE, lF⟩ := ents_in f9
    obtain ⟨si, st, nv, dv, sn, sd, e10, hn, hd, ln, ld⟩ := snap_in f10
    simp at e0 e1 e2 e3 e4 e5 e6 e7 e8 e9 e10
    obtain ⟨y0, y1, y2, y3⟩ := e10
    subst e0 e1 e2 e3 e4 e5 e6 e7 e8 e9 y0 y1 y2 y3
    have m9 : (xs[9]).1 ∈ xs.map (·.1) := List.mem_map.2 ⟨_, List.getElem_mem _, rfl⟩
    have m10 : (xs[10]).1 ∈ xs.map (·.1) := List.mem_map.2 ⟨_, List.getElem_mem _, rfl⟩
    have q9 := bulk_mem m9
    have q10 := bulk_mem m10
    refine ⟨⟨a0, a1, a2, a3, a4, a5, a6, a7, a8, es, si, st, sn, sd⟩, _, _, _, rfl, ⟨hE, hn, hd⟩, ?_, ?_, ?_, fun e he => ?_⟩
    · simp only [Rows.uptoBulk]; omega
    · simp only [Rows.uptoBulk]; omega
    · simp only [Rows.uptoBulk]; omega
    · have := lF e he
      simp only [Rows.uptoBulk]; omega
end
end Go.Proofs.YtknaaaphdjdaoaaDoor
