/-
  Replace, whole.
-/
import Derived.Test.YtokojeiiobhciaaDoorRw
import Derived.Laws.IdiomStrings
import Derived.Laws.BytesArg
namespace Go.Proofs.YtokojeiiobhciaaDoor
open Go.RowKit Mem
set_option linter.unusedVariables false
set_option linter.unusedSimpArgs false

theorem make_buf (K : Nat) (hK : K ≤ 1000000000000) (w : World) : (Instr.makeSlice 155 (.int .i64 0) (.int .i64 (K : Int))).run Tryd.prog w = .ok (.slice (some ⟨w.heap.size, 0, none⟩) 0 K) (w.alloc (.cells (madeCells #[Value.int .u8 0] K) 5)) := by
  obtain ⟨i, hi, hz0, hz1, hz2⟩ := info_parts info_u8
  have := run_make (P := Tryd.prog) w 155 5 i (.int .u8 0) Tryd.underlying155 hi hz0 .i64 .i64 0 (K : Int) (by omega) (by omega) (by rw [hz2]; simp; omega) (by omega)
  rw [hz1, Nat.mul_one] at this
  simp only [Int.toNat_zero, Int.toNat_natCast] at this
  exact this
theorem madeCells_size (K : Nat) : (madeCells #[Value.int .u8 0] K).size = K := by
  have := size_madeCells #[Value.int .u8 0] K
  simpa using this
theorem bf_new (w : World) (K : Nat) (hK : K ≤ 1000000000000) : Bf w ((w.alloc (.cells (madeCells #[Value.int .u8 0] K) 5)).alloc (.cells #[.slice (some ⟨w.heap.size, 0, none⟩) 0 K] 155)) (w.heap.size + 1) [] := by
  have h1 : Blk (w.alloc (.cells (madeCells #[Value.int .u8 0] K) 5)) w.heap.size (madeCells #[Value.int .u8 0] K) 5 := Blk.new w _ _
  have h2 : Blk ((w.alloc (.cells (madeCells #[Value.int .u8 0] K) 5)).alloc (.cells #[.slice (some ⟨w.heap.size, 0, none⟩) 0 K] 155)) (w.heap.size + 1) #[.slice (some ⟨w.heap.size, 0, none⟩) 0 K] 155 := by
    have := Blk.new (w.alloc (.cells (madeCells #[Value.int .u8 0] K) 5)) #[.slice (some ⟨w.heap.size, 0, none⟩) 0 K] 155
    have e : (w.alloc (.cells (madeCells #[Value.int .u8 0] K) 5)).heap.size = w.heap.size + 1 := by simp
    rwa [e] at this
  exact ⟨((Mod.refl _ w).alloc _).alloc _, by omega, w.heap.size, _, Nat.le_refl _, h2, K, _, rfl, h1.alloc _, Nat.zero_le _, by unfold maxLen; omega, by rw [madeCells_size]; exact Nat.le_refl _, rfl⟩
/-- The text of bytes. -/
theorem Fb.text {w : World} {v : Value} {l : Bs} {g : Nat} (h : Fb w v l g) : (convert 155 9 v).run Tryd.prog w = .ok (.string (sv l)) w := by
  obtain ⟨cap, cur, rfl, hB, hlc, hcm, hcs, htk⟩ := h
  have e0 : (l.map fun b => (b.toNat : Int)).map (Value.int .u8) = bts l := by simp [bts]
  have hl : (loadCells ⟨g, 0, none⟩ l.length).run Tryd.prog w = .ok ((l.map fun b => (b.toNat : Int)).map (Value.int .u8)).toArray w := by
    have := run_loadCells_list (P := Tryd.prog) w ⟨g, 0, none⟩ (bts l) (fun j u hu => by
      have hj : j < l.length := by have := (List.getElem?_eq_some_iff.1 hu).1; rwa [bts_len] at this
      rw [Addr.add_lit, hB.cell, Nat.zero_add]
      rw [← htk, List.getElem?_take_of_lt (by omega)] at hu
      simpa using hu)
    rw [bts_len] at this
    rw [e0]; exact this
  rw [run_convert_bytes_string w 155 9 5 _ l.length cap Tryd.underlying155 Tryd.underlying5 Tryd.underlying9, run_bytesToString w _ l.length cap _ hl, foldl_push_bytes]
  congr 2
  apply ByteArray.ext
  apply Array.toList_inj.1
  simp [ByteArray.empty, ByteArray.emptyWithCapacity, sv]
  exact List.map_id'' (fun b => by simp) l
theorem rep_method (v : Value) (w : World) : (method 270 107 v "Replace").run Tryd.prog w = .ok (102, v) w := by kernel_rfl
set_option maxRecDepth 100000 in
set_option maxHeartbeats 1600000 in
theorem gr_any (g tb : Nat) (s : Bs) (w : World) (hT : Tri w g tb) (hs : s.length ≤ 1000000000000) :
    Calls Tryd.prog 102 #[.pointer (some ⟨g, 0, none⟩), .string (sv s)] w fun e w' => e = .returned (.string (sv (rpl s))) ∧ Mod (fun _ => False) w w' := by
  have hmk := make_buf s.length hs
  have hws := ws_any w g tb (w.heap.size + 1) s _ hT (bf_new w s.length hs) hs
  have hsz : ((sv s).size : Int) = (s.length : Int) := rfl
  go_enter Tryd.func102, Tryd.ntmps102
  go_wp2_with (fail)
  refine hws.mono ?_
  rintro e w2 ⟨k, rfl, hm2, hbf, gg, v, hgg, hB, hF⟩
  have c0 : w2.cell? ⟨w.heap.size + 1, 0, none⟩ = some v := hB.cell 0
  have hcv := hF.text
  obtain ⟨cap, cur, hv, hBg, _⟩ := hF
  have HM := Lib.hid hm2
  clear hB hm2 hBg hws
  subst hv
  go_wp2_with (fail)
  go_ret
  exact ⟨rfl, HM.out⟩
set_option maxRecDepth 100000 in
set_option maxHeartbeats 1600000 in
theorem rr_any (b o c : Nat) (s : Bs) (w : World) (hs : s.length ≤ 1000000000000) (hc4 : 4 ≤ c) (hb : Blk w b (repC 0 0 .nilIface (.slice (some ⟨o, 0, none⟩) 4 c)) 87) (ho : Four w o) :
    Calls Tryd.prog 26 #[.pointer (some ⟨b, 0, none⟩), .string (sv s)] w fun e w' => e = .returned (.string (sv (rpl s))) ∧ Mod (· = b) w w' := by
  have hrm := fun g : Nat => rep_method (.pointer (some ⟨g, 0, none⟩))
  have hdo := do_build b o c w hc4 hb ho
  go_enter Tryd.func26, Tryd.ntmps26
  go_wp2_with (fail)
  refine hdo.mono ?_
  rintro e w2 ⟨rfl, g, tb, hb2, hT2, hm2⟩
  have c3 : w2.cell? ⟨b, 3, none⟩ = some (.iface 107 (.pointer (some ⟨g, 0, none⟩))) := hb2.cell 3
  have hgr := gr_any g tb s w2 hT2 hs
  go_wp2_with (fail)
  refine hgr.mono ?_
  rintro e w3 ⟨rfl, hm3⟩
  go_wp2_with (fail)
  go_ret
  exact ⟨rfl, hm2.trans hm3 (fun i hi => hi.elim)⟩
end Go.Proofs.YtokojeiiobhciaaDoor
