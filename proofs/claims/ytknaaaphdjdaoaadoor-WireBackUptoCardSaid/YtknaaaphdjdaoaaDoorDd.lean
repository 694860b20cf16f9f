/-
  Decode, whole.
-/
import Derived.Test.YtknaaaphdjdaoaaDoorDn
namespace Go.Proofs.YtknaaaphdjdaoaaDoor
open Go.RowKit Mem
set_option linter.unusedVariables false
set_option linter.unusedSimpArgs false

/-- The letter that bytes are, or where they are none. -/
def decR (l : Bs) : Except Nat Lt :=
  match letterR l with
  | .error p => .error p
  | .ok (m, k) => if k < l.length then .error k else if rightB m then .ok m else .error 0
def LetOk (l : Bs) : Prop := ∀ (B r : Nat) (bv : Value) (w : World), Rr B w r bv l 0 → Calls Tryd.prog 38 #[.pointer (some ⟨r, 0, none⟩)] w (Reads (IsL w) B r bv l w (letterR l))
def RtOk (m : Lt) : Prop := ∀ (ev nv dv : Value) (w : World), LV w ev nv dv m → Calls Tryd.prog 12 #[lval m ev nv dv] w fun en w' => en = .returned (.bool (rightB m)) ∧ Mod (fun _ => False) w w'
/-- How Decode ends. -/
def Decs (w : World) (o : Except Nat Lt) (e : Ending) (w' : World) : Prop :=
  match o with
  | .ok m => ∃ ev nv dv, e = .returned (.tuple #[lval m ev nv dv, .nilIface]) ∧ LV w' ev nv dv m ∧ Mod (fun _ => False) w w'
  | .error p => ∃ fb, e = .returned (.tuple #[.agg zcells, .iface 66 (.pointer (some ⟨fb, 0, none⟩))]) ∧ Blk w' fb #[.int .i64 (p : Int), .int .i64 12] 42 ∧ Mod (fun _ => False) w w'
set_option maxRecDepth 100000 in
set_option maxHeartbeats 3200000 in
theorem dec_any (A : Option Addr) (n c : Nat) (l : Bs) (w : World) (hin : RdC w (.slice A n c) l) (hl : l.length ≤ 1048576) (hLet : LetOk l) (hRt : ∀ m k, letterR l = .ok (m, k) → RtOk m) :
    Calls Tryd.prog 14 #[.slice A n c] w (Decs w (decR l)) := by
  obtain rfl : l.length = n := hin.len
  obtain ⟨O, hO⟩ : ∃ O, decR l = O := ⟨_, rfl⟩
  rw [hO]
  have HO := Lib.hid hO
  have hmf : ∀ (fn : Fn) (first cap : Array Value) (w : World), (Instr.makeFunc fn first cap).run Tryd.prog w = .ok (.func fn first cap) w := fun _ _ _ _ => rfl
  have hm0 := ((Mod.refl (fun _ => False) w).alloc (Obj.cells zcells 28)).alloc (Obj.cells #[.nilIface] 37)
  have hs0 := (Blk.new w zcells 28).alloc (Obj.cells #[.nilIface] 37)
  have he0 := Blk.new (w.alloc (Obj.cells zcells 28)) #[.nilIface] 37
  have hsz : (w.alloc (Obj.cells zcells 28)).heap.size = w.heap.size + 1 := by simp
  rw [hsz] at he0
  unfold zcells at hm0 hs0 he0
  obtain ⟨w0, hw0⟩ : ∃ w0, (w.alloc (Obj.cells #[.int .i64 0, .int .i64 0, .int .i64 0, .int .i64 0, .int .i64 0, .int .i64 0, .int .i64 0, .int .i64 0, .bool false, .slice none 0 0, .int .i64 0, .int .i64 0, .slice none 0 0, .slice none 0 0] 28)).alloc (Obj.cells #[.nilIface] 37) = w0 := ⟨_, rfl⟩
  rw [hw0] at hm0 hs0 he0
  have hsz0 : w0.heap.size = w.heap.size + 2 := by rw [← hw0]; simp
  have hcl := clone_any w0 _ l (hin.mod hm0).1 hl
  have HM0 := Lib.hid hm0
  have HS0 := Lib.hid hs0
  have HE0 := Lib.hid he0
  have HZ0 := Lib.hid hsz0
  clear hO hm0 hs0 he0 hsz hsz0 hin
  go_enter_defers Tryd.func14, Tryd.ntmps14
  go_wp2_with (fail)
  refine hcl.mono ?_
  rintro e w1 ⟨bv, rfl, hO1, hm1⟩
  have hS1 := HS0.out.mod hm1 (fun h => h)
  have hE1 := HE0.out.mod hm1 (fun h => h)
  have hr1 : Rr (w1.heap.size + 1) (w1.alloc (Obj.cells #[bv, .int .i64 0] 70)) w1.heap.size bv l 0 := by
    refine ⟨Blk.new w1 #[bv, .int .i64 0] 70, (hO1.mod ((Mod.refl _ w1).alloc _)).rd, fun a n' c' hv hne => ?_, Nat.zero_le _, by omega, by omega, by simp⟩
    rcases hO1 with ⟨_, h0⟩ | ⟨g, hg, cap, cur, hv', hB, _⟩
    · exact absurd h0 hne
    · rw [hv'] at hv
      injection hv with h1
      injection h1 with h1
      have := hB.lt
      rw [← h1]
      exact ⟨by show ¬ g = w1.heap.size; omega, by show g < w1.heap.size + 1; omega⟩
  have HM1 := Lib.hid (md_then HM0.out hm1)
  have hS2 := hS1.alloc (Obj.cells #[bv, .int .i64 0] 70)
  have hE2 := hE1.alloc (Obj.cells #[bv, .int .i64 0] 70)
  have hM2 := HM1.out.alloc (Obj.cells #[bv, .int .i64 0] 70)
  have hZ2 : w.heap.size + 2 ≤ w1.heap.size := by have := hm1.size; have := HZ0.out; omega
  obtain ⟨r, hr⟩ : ∃ r, w1.heap.size = r := ⟨_, rfl⟩
  obtain ⟨w2, hw2⟩ : ∃ w2, w1.alloc (Obj.cells #[bv, .int .i64 0] 70) = w2 := ⟨_, rfl⟩
  rw [hw2] at hr1 hS2 hE2 hM2
  rw [hr] at hr1 hZ2
  have hx := hLet _ _ _ _ hr1
  have HS2 := Lib.hid hS2
  have HE2 := Lib.hid hE2
  have HM2 := Lib.hid hM2
  have HR2 := Lib.hid hr1
  obtain ⟨ab, cb, rfl⟩ := hO1.val
  clear hO1 hm1 hS1 hE1 hS2 hE2 hM2 hr1 HM0 HS0 HE0 HZ0 HM1 hcl hw0
  go_wp2_with (fail)
  refine hx.mono ?_
  intro e w3 hR
  cases hlr : letterR l with
  | error p =>
    rw [hlr] at hR
    obtain ⟨rfl, hm⟩ := hR
    have hOe : O = .error p := by rw [← HO.out, decR, hlr]
    have HOE := Lib.hid hOe
    have HS := Lib.hid (HS2.out.mod hm (by omega))
    have HE := Lib.hid (HE2.out.mod hm (by omega))
    have HM := Lib.hid (HM2.out.trans hm (fun i hi => .inr (by omega)))
    clear hx hlr hOe hm HO HM2 HS2 HE2 HR2
    go_wp2_with (fail)
    refine leaves_cons (f := 36) (args := #[.pointer (some ⟨w.heap.size, 0, none⟩), .pointer (some ⟨w.heap.size + 1, 0, none⟩)]) (by simp) (by simp [go_sem]) ?_
    refine (catch_any _ _ _ _ _ _ _ _ _ _ _ _ _ _ _ _ (p) w3 HS.out HE.out).mono ?_
    rintro e u' w9 ⟨rfl, rfl, ⟨fb, hF, hE9⟩, hS9, hm9⟩
    have HM9 := Lib.hid (HM.out.trans hm9 (fun i hi => .inr (by omega)))
    have HF9 := Lib.hid hF
    have c0 : w9.cell? ⟨w.heap.size, 0, none⟩ = some (.int .i64 0) := hS9.cell 0
    have c1 : w9.cell? ⟨w.heap.size, 1, none⟩ = some (.int .i64 0) := hS9.cell 1
    have c2 : w9.cell? ⟨w.heap.size, 2, none⟩ = some (.int .i64 0) := hS9.cell 2
    have c3 : w9.cell? ⟨w.heap.size, 3, none⟩ = some (.int .i64 0) := hS9.cell 3
    have c4 : w9.cell? ⟨w.heap.size, 4, none⟩ = some (.int .i64 0) := hS9.cell 4
    have c5 : w9.cell? ⟨w.heap.size, 5, none⟩ = some (.int .i64 0) := hS9.cell 5
    have c6 : w9.cell? ⟨w.heap.size, 6, none⟩ = some (.int .i64 0) := hS9.cell 6
    have c7 : w9.cell? ⟨w.heap.size, 7, none⟩ = some (.int .i64 0) := hS9.cell 7
    have c8 : w9.cell? ⟨w.heap.size, 8, none⟩ = some (.bool false) := hS9.cell 8
    have c9 : w9.cell? ⟨w.heap.size, 9, none⟩ = some (.slice none 0 0) := hS9.cell 9
    have c10 : w9.cell? ⟨w.heap.size, 10, none⟩ = some (.int .i64 0) := hS9.cell 10
    have c11 : w9.cell? ⟨w.heap.size, 11, none⟩ = some (.int .i64 0) := hS9.cell 11
    have c12 : w9.cell? ⟨w.heap.size, 12, none⟩ = some (.slice none 0 0) := hS9.cell 12
    have c13 : w9.cell? ⟨w.heap.size, 13, none⟩ = some (.slice none 0 0) := hS9.cell 13
    have ce : w9.cell? ⟨w.heap.size + 1, 0, none⟩ = some (.iface 66 (.pointer (some ⟨fb, 0, none⟩))) := hE9.cell 0
    clear hm9 hF hS9 hE9
    simp [Leaves, settle, results, Tryd.results14, go_sem, ce, c0, c1, c2, c3, c4, c5, c6, c7, c8, c9, c10, c11, c12, c13]
    rw [HOE.out]
    exact ⟨fb, rfl, HF9.out, HM9.out⟩
  | ok x =>
    obtain ⟨m, k⟩ := x
    rw [hlr] at hR
    obtain ⟨v, rfl, hr3, hm, ev, nv, dv, rfl, hlk⟩ := hR
    have hlv := hlk (fun _ => False) w3 (Mod.refl _ w3) (fun _ h => h.elim)
    have hrt := hRt m k hlr
    obtain ⟨e1, e3, rfl⟩ := hlv.1.val
    obtain ⟨n1, n3, rfl⟩ := hlv.2.1.val
    obtain ⟨d1, d3, rfl⟩ := hlv.2.2.val
    have hDec : O = if k < l.length then .error k else if rightB m then .ok m else .error 0 := by rw [← HO.out, decR, hlr]
    have HDec := Lib.hid hDec
    obtain ⟨kd, fr, tt, tm, ix, lt, cm, rd, ok, es, si, st, sn, sd⟩ := m
    have HLK := Lib.hid hlk
    clear hlv hlk
    obtain ⟨e2, he2⟩ : ∃ e2, es.length = e2 := ⟨_, rfl⟩
    obtain ⟨n2, hn2⟩ : ∃ n2, sn.length = n2 := ⟨_, rfl⟩
    obtain ⟨d2, hd2⟩ : ∃ d2, sd.length = d2 := ⟨_, rfl⟩
    simp only [lval, he2, hn2, hd2] at *
    have hS3 := HS2.out.mod hm (by omega)
    have hE3 := HE2.out.mod hm (by omega)
    have hM3 := HM2.out.trans hm (fun i hi => .inr (by omega))
    have c0 : w3.cell? ⟨w.heap.size, 0, none⟩ = some (.int .i64 0) := hS3.cell 0
    have zc0 := hS3.frozen 0
    have c1 : w3.cell? ⟨w.heap.size, 1, none⟩ = some (.int .i64 0) := hS3.cell 1
    have zc1 := hS3.frozen 1
    have c2 : w3.cell? ⟨w.heap.size, 2, none⟩ = some (.int .i64 0) := hS3.cell 2
    have zc2 := hS3.frozen 2
    have c3 : w3.cell? ⟨w.heap.size, 3, none⟩ = some (.int .i64 0) := hS3.cell 3
    have zc3 := hS3.frozen 3
    have c4 : w3.cell? ⟨w.heap.size, 4, none⟩ = some (.int .i64 0) := hS3.cell 4
    have zc4 := hS3.frozen 4
    have c5 : w3.cell? ⟨w.heap.size, 5, none⟩ = some (.int .i64 0) := hS3.cell 5
    have zc5 := hS3.frozen 5
    have c6 : w3.cell? ⟨w.heap.size, 6, none⟩ = some (.int .i64 0) := hS3.cell 6
    have zc6 := hS3.frozen 6
    have c7 : w3.cell? ⟨w.heap.size, 7, none⟩ = some (.int .i64 0) := hS3.cell 7
    have zc7 := hS3.frozen 7
    have c8 : w3.cell? ⟨w.heap.size, 8, none⟩ = some (.bool false) := hS3.cell 8
    have zc8 := hS3.frozen 8
    have c9 : w3.cell? ⟨w.heap.size, 9, none⟩ = some (.slice none 0 0) := hS3.cell 9
    have zc9 := hS3.frozen 9
    have c10 : w3.cell? ⟨w.heap.size, 10, none⟩ = some (.int .i64 0) := hS3.cell 10
    have zc10 := hS3.frozen 10
    have c11 : w3.cell? ⟨w.heap.size, 11, none⟩ = some (.int .i64 0) := hS3.cell 11
    have zc11 := hS3.frozen 11
    have c12 : w3.cell? ⟨w.heap.size, 12, none⟩ = some (.slice none 0 0) := hS3.cell 12
    have zc12 := hS3.frozen 12
    have c13 : w3.cell? ⟨w.heap.size, 13, none⟩ = some (.slice none 0 0) := hS3.cell 13
    have zc13 := hS3.frozen 13
    have HS3 := Lib.hid hS3
    have HE3 := Lib.hid hE3
    have HM3 := Lib.hid hM3
    have HR3 := Lib.hid hr3
    clear hx hlr hDec hm HO HM2 HS2 HE2 HR2 hS3 hE3 hM3 hr3 he2 hn2 hd2
    go_upto_region 4 with (fail)
    have hS4 : Blk ((((((((((((((w3.setCell ⟨w.heap.size, 0, none⟩ (.int .i64 kd)).setCell ⟨w.heap.size, 1, none⟩ (.int .i64 fr)).setCell ⟨w.heap.size, 2, none⟩ (.int .i64 tt)).setCell ⟨w.heap.size, 3, none⟩ (.int .i64 tm)).setCell ⟨w.heap.size, 4, none⟩ (.int .i64 ix)).setCell ⟨w.heap.size, 5, none⟩ (.int .i64 lt)).setCell ⟨w.heap.size, 6, none⟩ (.int .i64 cm)).setCell ⟨w.heap.size, 7, none⟩ (.int .i64 rd)).setCell ⟨w.heap.size, 8, none⟩ (.bool ok)).setCell ⟨w.heap.size, 9, none⟩ (.slice e1 e2 e3)).setCell ⟨w.heap.size, 10, none⟩ (.int .i64 si)).setCell ⟨w.heap.size, 11, none⟩ (.int .i64 st)).setCell ⟨w.heap.size, 12, none⟩ (.slice n1 n2 n3)).setCell ⟨w.heap.size, 13, none⟩ (.slice d1 d2 d3)) w.heap.size #[.int .i64 kd, .int .i64 fr, .int .i64 tt, .int .i64 tm, .int .i64 ix, .int .i64 lt, .int .i64 cm, .int .i64 rd, .bool ok, .slice e1 e2 e3, .int .i64 si, .int .i64 st, .slice n1 n2 n3, .slice d1 d2 d3] 28 := set14 HS3.out rfl _ _ _ _ _ _ _ _ _ _ _ _ _ _
    have hE4 : Blk ((((((((((((((w3.setCell ⟨w.heap.size, 0, none⟩ (.int .i64 kd)).setCell ⟨w.heap.size, 1, none⟩ (.int .i64 fr)).setCell ⟨w.heap.size, 2, none⟩ (.int .i64 tt)).setCell ⟨w.heap.size, 3, none⟩ (.int .i64 tm)).setCell ⟨w.heap.size, 4, none⟩ (.int .i64 ix)).setCell ⟨w.heap.size, 5, none⟩ (.int .i64 lt)).setCell ⟨w.heap.size, 6, none⟩ (.int .i64 cm)).setCell ⟨w.heap.size, 7, none⟩ (.int .i64 rd)).setCell ⟨w.heap.size, 8, none⟩ (.bool ok)).setCell ⟨w.heap.size, 9, none⟩ (.slice e1 e2 e3)).setCell ⟨w.heap.size, 10, none⟩ (.int .i64 si)).setCell ⟨w.heap.size, 11, none⟩ (.int .i64 st)).setCell ⟨w.heap.size, 12, none⟩ (.slice n1 n2 n3)).setCell ⟨w.heap.size, 13, none⟩ (.slice d1 d2 d3)) (w.heap.size + 1) #[.nilIface] 37 := far14 HE3.out (by omega) _ _ _ _ _ _ _ _ _ _ _ _ _ _
    have hm4 : Mod (· = w.heap.size) w3 ((((((((((((((w3.setCell ⟨w.heap.size, 0, none⟩ (.int .i64 kd)).setCell ⟨w.heap.size, 1, none⟩ (.int .i64 fr)).setCell ⟨w.heap.size, 2, none⟩ (.int .i64 tt)).setCell ⟨w.heap.size, 3, none⟩ (.int .i64 tm)).setCell ⟨w.heap.size, 4, none⟩ (.int .i64 ix)).setCell ⟨w.heap.size, 5, none⟩ (.int .i64 lt)).setCell ⟨w.heap.size, 6, none⟩ (.int .i64 cm)).setCell ⟨w.heap.size, 7, none⟩ (.int .i64 rd)).setCell ⟨w.heap.size, 8, none⟩ (.bool ok)).setCell ⟨w.heap.size, 9, none⟩ (.slice e1 e2 e3)).setCell ⟨w.heap.size, 10, none⟩ (.int .i64 si)).setCell ⟨w.heap.size, 11, none⟩ (.int .i64 st)).setCell ⟨w.heap.size, 12, none⟩ (.slice n1 n2 n3)).setCell ⟨w.heap.size, 13, none⟩ (.slice d1 d2 d3)) := mod14 (S := fun x => x = w.heap.size) (Mod.refl _ w3) (.inl rfl) _ _ _ _ _ _ _ _ _ _ _ _ _ _
    obtain ⟨w4, hw4⟩ : ∃ w4, ((((((((((((((w3.setCell ⟨w.heap.size, 0, none⟩ (.int .i64 kd)).setCell ⟨w.heap.size, 1, none⟩ (.int .i64 fr)).setCell ⟨w.heap.size, 2, none⟩ (.int .i64 tt)).setCell ⟨w.heap.size, 3, none⟩ (.int .i64 tm)).setCell ⟨w.heap.size, 4, none⟩ (.int .i64 ix)).setCell ⟨w.heap.size, 5, none⟩ (.int .i64 lt)).setCell ⟨w.heap.size, 6, none⟩ (.int .i64 cm)).setCell ⟨w.heap.size, 7, none⟩ (.int .i64 rd)).setCell ⟨w.heap.size, 8, none⟩ (.bool ok)).setCell ⟨w.heap.size, 9, none⟩ (.slice e1 e2 e3)).setCell ⟨w.heap.size, 10, none⟩ (.int .i64 si)).setCell ⟨w.heap.size, 11, none⟩ (.int .i64 st)).setCell ⟨w.heap.size, 12, none⟩ (.slice n1 n2 n3)).setCell ⟨w.heap.size, 13, none⟩ (.slice d1 d2 d3)) = w4 := ⟨_, rfl⟩
    rw [hw4] at hS4 hE4 hm4
    clear c0 zc0 c1 zc1 c2 zc2 c3 zc3 c4 zc4 c5 zc5 c6 zc6 c7 zc7 c8 zc8 c9 zc9 c10 zc10 c11 zc11 c12 zc12 c13 zc13
    simp only [hw4]
    clear hw4
    have hwr : w.heap.size + 2 ≤ w2.heap.size := by rw [← hw2]; simp; omega
    have hL4 := HLK.out _ w4 hm4 (fun b hb => by omega)
    have hR4 := HR3.out.1.mod hm4 (by omega)
    have cr : w4.cell? ⟨r, 1, none⟩ = some (.int .i64 (k : Int)) := hR4.cell 1
    have HS := Lib.hid hS4
    have HE := Lib.hid hE4
    have HM := Lib.hid (HM3.out.trans hm4 (fun i hi => .inr (by omega)))
    have HL4 := Lib.hid hL4
    have HM34 := Lib.hid hm4
    clear hS4 hE4 hm4 hL4 hR4 HS3 HE3 HM3 HR3
    by_cases hk : k < l.length
    · have hki : (k : Int) < (l.length : Int) := by omega
      have HOE := Lib.hid (HDec.out.trans (if_pos hk))
      clear HDec
      go_wp2_with (fail)
      refine leaves_cons (f := 36) (args := #[.pointer (some ⟨w.heap.size, 0, none⟩), .pointer (some ⟨w.heap.size + 1, 0, none⟩)]) (by simp) (by simp [go_sem]) ?_
      refine (catch_any _ _ _ _ _ _ _ _ _ _ _ _ _ _ _ _ (k) w4 HS.out HE.out).mono ?_
      rintro e u' w9 ⟨rfl, rfl, ⟨fb, hF, hE9⟩, hS9, hm9⟩
      have HM9 := Lib.hid (HM.out.trans hm9 (fun i hi => .inr (by omega)))
      have HF9 := Lib.hid hF
      have c0 : w9.cell? ⟨w.heap.size, 0, none⟩ = some (.int .i64 0) := hS9.cell 0
      have c1 : w9.cell? ⟨w.heap.size, 1, none⟩ = some (.int .i64 0) := hS9.cell 1
      have c2 : w9.cell? ⟨w.heap.size, 2, none⟩ = some (.int .i64 0) := hS9.cell 2
      have c3 : w9.cell? ⟨w.heap.size, 3, none⟩ = some (.int .i64 0) := hS9.cell 3
      have c4 : w9.cell? ⟨w.heap.size, 4, none⟩ = some (.int .i64 0) := hS9.cell 4
      have c5 : w9.cell? ⟨w.heap.size, 5, none⟩ = some (.int .i64 0) := hS9.cell 5
      have c6 : w9.cell? ⟨w.heap.size, 6, none⟩ = some (.int .i64 0) := hS9.cell 6
      have c7 : w9.cell? ⟨w.heap.size, 7, none⟩ = some (.int .i64 0) := hS9.cell 7
      have c8 : w9.cell? ⟨w.heap.size, 8, none⟩ = some (.bool false) := hS9.cell 8
      have c9 : w9.cell? ⟨w.heap.size, 9, none⟩ = some (.slice none 0 0) := hS9.cell 9
      have c10 : w9.cell? ⟨w.heap.size, 10, none⟩ = some (.int .i64 0) := hS9.cell 10
      have c11 : w9.cell? ⟨w.heap.size, 11, none⟩ = some (.int .i64 0) := hS9.cell 11
      have c12 : w9.cell? ⟨w.heap.size, 12, none⟩ = some (.slice none 0 0) := hS9.cell 12
      have c13 : w9.cell? ⟨w.heap.size, 13, none⟩ = some (.slice none 0 0) := hS9.cell 13
      have ce : w9.cell? ⟨w.heap.size + 1, 0, none⟩ = some (.iface 66 (.pointer (some ⟨fb, 0, none⟩))) := hE9.cell 0
      clear hm9 hF hS9 hE9
      simp [Leaves, settle, results, Tryd.results14, go_sem, ce, c0, c1, c2, c3, c4, c5, c6, c7, c8, c9, c10, c11, c12, c13]
      rw [HOE.out]
      exact ⟨fb, rfl, HF9.out, HM9.out⟩
    · have hki : ¬ (k : Int) < (l.length : Int) := by omega
      have HOF := Lib.hid (HDec.out.trans (if_neg hk))
      clear HDec
      have c0 : w4.cell? ⟨w.heap.size, 0, none⟩ = some (.int .i64 kd) := HS.out.cell 0
      have c1 : w4.cell? ⟨w.heap.size, 1, none⟩ = some (.int .i64 fr) := HS.out.cell 1
      have c2 : w4.cell? ⟨w.heap.size, 2, none⟩ = some (.int .i64 tt) := HS.out.cell 2
      have c3 : w4.cell? ⟨w.heap.size, 3, none⟩ = some (.int .i64 tm) := HS.out.cell 3
      have c4 : w4.cell? ⟨w.heap.size, 4, none⟩ = some (.int .i64 ix) := HS.out.cell 4
      have c5 : w4.cell? ⟨w.heap.size, 5, none⟩ = some (.int .i64 lt) := HS.out.cell 5
      have c6 : w4.cell? ⟨w.heap.size, 6, none⟩ = some (.int .i64 cm) := HS.out.cell 6
      have c7 : w4.cell? ⟨w.heap.size, 7, none⟩ = some (.int .i64 rd) := HS.out.cell 7
      have c8 : w4.cell? ⟨w.heap.size, 8, none⟩ = some (.bool ok) := HS.out.cell 8
      have c9 : w4.cell? ⟨w.heap.size, 9, none⟩ = some (.slice e1 e2 e3) := HS.out.cell 9
      have c10 : w4.cell? ⟨w.heap.size, 10, none⟩ = some (.int .i64 si) := HS.out.cell 10
      have c11 : w4.cell? ⟨w.heap.size, 11, none⟩ = some (.int .i64 st) := HS.out.cell 11
      have c12 : w4.cell? ⟨w.heap.size, 12, none⟩ = some (.slice n1 n2 n3) := HS.out.cell 12
      have c13 : w4.cell? ⟨w.heap.size, 13, none⟩ = some (.slice d1 d2 d3) := HS.out.cell 13
      go_wp2_with (fail)
      refine (hrt _ _ _ w4 HL4.out).mono ?_
      rintro e w5 ⟨rfl, hm5⟩
      have HS5 := Lib.hid (HS.out.mod hm5 (fun h => h))
      have HE5 := Lib.hid (HE.out.mod hm5 (fun h => h))
      have HM5 := Lib.hid (md_then HM.out hm5)
      have HL5 := Lib.hid (HL4.out.mod hm5)
      have HM35 := Lib.hid (HM34.out.trans hm5 (fun _ h => h.elim))
      clear hm5 hrt HS HE HM HL4 HM34 c0 c1 c2 c3 c4 c5 c6 c7 c8 c9 c10 c11 c12 c13 cr
      cases hrb : rightB ⟨kd, fr, tt, tm, ix, lt, cm, rd, ok, es, si, st, sn, sd⟩ with
      | false =>
        have HOE : Hid (O = .error 0) := Lib.hid (HOF.out.trans (by rw [hrb]; rfl))
        have HS := HS5
        have HE := HE5
        have HM := HM5
        clear HS5 HE5 HM5 HL5 hrb HOF
        go_wp2_with (fail)
        refine leaves_cons (f := 36) (args := #[.pointer (some ⟨w.heap.size, 0, none⟩), .pointer (some ⟨w.heap.size + 1, 0, none⟩)]) (by simp) (by simp [go_sem]) ?_
        refine (catch_any _ _ _ _ _ _ _ _ _ _ _ _ _ _ _ _ (0) w5 HS.out HE.out).mono ?_
        rintro e u' w9 ⟨rfl, rfl, ⟨fb, hF, hE9⟩, hS9, hm9⟩
        have HM9 := Lib.hid (HM.out.trans hm9 (fun i hi => .inr (by omega)))
        have HF9 := Lib.hid hF
        have c0 : w9.cell? ⟨w.heap.size, 0, none⟩ = some (.int .i64 0) := hS9.cell 0
        have c1 : w9.cell? ⟨w.heap.size, 1, none⟩ = some (.int .i64 0) := hS9.cell 1
        have c2 : w9.cell? ⟨w.heap.size, 2, none⟩ = some (.int .i64 0) := hS9.cell 2
        have c3 : w9.cell? ⟨w.heap.size, 3, none⟩ = some (.int .i64 0) := hS9.cell 3
        have c4 : w9.cell? ⟨w.heap.size, 4, none⟩ = some (.int .i64 0) := hS9.cell 4
        have c5 : w9.cell? ⟨w.heap.size, 5, none⟩ = some (.int .i64 0) := hS9.cell 5
        have c6 : w9.cell? ⟨w.heap.size, 6, none⟩ = some (.int .i64 0) := hS9.cell 6
        have c7 : w9.cell? ⟨w.heap.size, 7, none⟩ = some (.int .i64 0) := hS9.cell 7
        have c8 : w9.cell? ⟨w.heap.size, 8, none⟩ = some (.bool false) := hS9.cell 8
        have c9 : w9.cell? ⟨w.heap.size, 9, none⟩ = some (.slice none 0 0) := hS9.cell 9
        have c10 : w9.cell? ⟨w.heap.size, 10, none⟩ = some (.int .i64 0) := hS9.cell 10
        have c11 : w9.cell? ⟨w.heap.size, 11, none⟩ = some (.int .i64 0) := hS9.cell 11
        have c12 : w9.cell? ⟨w.heap.size, 12, none⟩ = some (.slice none 0 0) := hS9.cell 12
        have c13 : w9.cell? ⟨w.heap.size, 13, none⟩ = some (.slice none 0 0) := hS9.cell 13
        have ce : w9.cell? ⟨w.heap.size + 1, 0, none⟩ = some (.iface 66 (.pointer (some ⟨fb, 0, none⟩))) := hE9.cell 0
        clear hm9 hF hS9 hE9
        simp [Leaves, settle, results, Tryd.results14, go_sem, ce, c0, c1, c2, c3, c4, c5, c6, c7, c8, c9, c10, c11, c12, c13]
        rw [HOE.out]
        exact ⟨fb, rfl, HF9.out, HM9.out⟩
      | true =>
        have HOE := Lib.hid (HOF.out.trans (by rw [hrb]; rfl : _ = Except.ok _))
        clear hrb HOF
        have c0 : w5.cell? ⟨w.heap.size, 0, none⟩ = some (.int .i64 kd) := HS5.out.cell 0
        have zc0 := HS5.out.frozen 0
        have c1 : w5.cell? ⟨w.heap.size, 1, none⟩ = some (.int .i64 fr) := HS5.out.cell 1
        have zc1 := HS5.out.frozen 1
        have c2 : w5.cell? ⟨w.heap.size, 2, none⟩ = some (.int .i64 tt) := HS5.out.cell 2
        have zc2 := HS5.out.frozen 2
        have c3 : w5.cell? ⟨w.heap.size, 3, none⟩ = some (.int .i64 tm) := HS5.out.cell 3
        have zc3 := HS5.out.frozen 3
        have c4 : w5.cell? ⟨w.heap.size, 4, none⟩ = some (.int .i64 ix) := HS5.out.cell 4
        have zc4 := HS5.out.frozen 4
        have c5 : w5.cell? ⟨w.heap.size, 5, none⟩ = some (.int .i64 lt) := HS5.out.cell 5
        have zc5 := HS5.out.frozen 5
        have c6 : w5.cell? ⟨w.heap.size, 6, none⟩ = some (.int .i64 cm) := HS5.out.cell 6
        have zc6 := HS5.out.frozen 6
        have c7 : w5.cell? ⟨w.heap.size, 7, none⟩ = some (.int .i64 rd) := HS5.out.cell 7
        have zc7 := HS5.out.frozen 7
        have c8 : w5.cell? ⟨w.heap.size, 8, none⟩ = some (.bool ok) := HS5.out.cell 8
        have zc8 := HS5.out.frozen 8
        have c9 : w5.cell? ⟨w.heap.size, 9, none⟩ = some (.slice e1 e2 e3) := HS5.out.cell 9
        have zc9 := HS5.out.frozen 9
        have c10 : w5.cell? ⟨w.heap.size, 10, none⟩ = some (.int .i64 si) := HS5.out.cell 10
        have zc10 := HS5.out.frozen 10
        have c11 : w5.cell? ⟨w.heap.size, 11, none⟩ = some (.int .i64 st) := HS5.out.cell 11
        have zc11 := HS5.out.frozen 11
        have c12 : w5.cell? ⟨w.heap.size, 12, none⟩ = some (.slice n1 n2 n3) := HS5.out.cell 12
        have zc12 := HS5.out.frozen 12
        have c13 : w5.cell? ⟨w.heap.size, 13, none⟩ = some (.slice d1 d2 d3) := HS5.out.cell 13
        have zc13 := HS5.out.frozen 13
        have ce : w5.cell? ⟨w.heap.size + 1, 0, none⟩ = some .nilIface := HE5.out.cell 0
        have ze := HE5.out.frozen 0
        go_wp2_with (fail)
        have hS6 : Blk (((((((((((((((w5.setCell ⟨w.heap.size, 0, none⟩ (.int .i64 kd)).setCell ⟨w.heap.size, 1, none⟩ (.int .i64 fr)).setCell ⟨w.heap.size, 2, none⟩ (.int .i64 tt)).setCell ⟨w.heap.size, 3, none⟩ (.int .i64 tm)).setCell ⟨w.heap.size, 4, none⟩ (.int .i64 ix)).setCell ⟨w.heap.size, 5, none⟩ (.int .i64 lt)).setCell ⟨w.heap.size, 6, none⟩ (.int .i64 cm)).setCell ⟨w.heap.size, 7, none⟩ (.int .i64 rd)).setCell ⟨w.heap.size, 8, none⟩ (.bool ok)).setCell ⟨w.heap.size, 9, none⟩ (.slice e1 e2 e3)).setCell ⟨w.heap.size, 10, none⟩ (.int .i64 si)).setCell ⟨w.heap.size, 11, none⟩ (.int .i64 st)).setCell ⟨w.heap.size, 12, none⟩ (.slice n1 n2 n3)).setCell ⟨w.heap.size, 13, none⟩ (.slice d1 d2 d3)).setCell ⟨w.heap.size + 1, 0, none⟩ .nilIface) w.heap.size #[.int .i64 kd, .int .i64 fr, .int .i64 tt, .int .i64 tm, .int .i64 ix, .int .i64 lt, .int .i64 cm, .int .i64 rd, .bool ok, .slice e1 e2 e3, .int .i64 si, .int .i64 st, .slice n1 n2 n3, .slice d1 d2 d3] 28 := (set14 HS5.out rfl _ _ _ _ _ _ _ _ _ _ _ _ _ _).far (p := ⟨w.heap.size + 1, 0, none⟩) (by show w.heap.size ≠ w.heap.size + 1; omega) _
        have hE6 : Blk (((((((((((((((w5.setCell ⟨w.heap.size, 0, none⟩ (.int .i64 kd)).setCell ⟨w.heap.size, 1, none⟩ (.int .i64 fr)).setCell ⟨w.heap.size, 2, none⟩ (.int .i64 tt)).setCell ⟨w.heap.size, 3, none⟩ (.int .i64 tm)).setCell ⟨w.heap.size, 4, none⟩ (.int .i64 ix)).setCell ⟨w.heap.size, 5, none⟩ (.int .i64 lt)).setCell ⟨w.heap.size, 6, none⟩ (.int .i64 cm)).setCell ⟨w.heap.size, 7, none⟩ (.int .i64 rd)).setCell ⟨w.heap.size, 8, none⟩ (.bool ok)).setCell ⟨w.heap.size, 9, none⟩ (.slice e1 e2 e3)).setCell ⟨w.heap.size, 10, none⟩ (.int .i64 si)).setCell ⟨w.heap.size, 11, none⟩ (.int .i64 st)).setCell ⟨w.heap.size, 12, none⟩ (.slice n1 n2 n3)).setCell ⟨w.heap.size, 13, none⟩ (.slice d1 d2 d3)).setCell ⟨w.heap.size + 1, 0, none⟩ .nilIface) (w.heap.size + 1) #[.nilIface] 37 := (far14 HE5.out (by omega) _ _ _ _ _ _ _ _ _ _ _ _ _ _).set 0 _
        have hM6 : Mod (fun b => b = w.heap.size ∨ b = w.heap.size + 1) w5 (((((((((((((((w5.setCell ⟨w.heap.size, 0, none⟩ (.int .i64 kd)).setCell ⟨w.heap.size, 1, none⟩ (.int .i64 fr)).setCell ⟨w.heap.size, 2, none⟩ (.int .i64 tt)).setCell ⟨w.heap.size, 3, none⟩ (.int .i64 tm)).setCell ⟨w.heap.size, 4, none⟩ (.int .i64 ix)).setCell ⟨w.heap.size, 5, none⟩ (.int .i64 lt)).setCell ⟨w.heap.size, 6, none⟩ (.int .i64 cm)).setCell ⟨w.heap.size, 7, none⟩ (.int .i64 rd)).setCell ⟨w.heap.size, 8, none⟩ (.bool ok)).setCell ⟨w.heap.size, 9, none⟩ (.slice e1 e2 e3)).setCell ⟨w.heap.size, 10, none⟩ (.int .i64 si)).setCell ⟨w.heap.size, 11, none⟩ (.int .i64 st)).setCell ⟨w.heap.size, 12, none⟩ (.slice n1 n2 n3)).setCell ⟨w.heap.size, 13, none⟩ (.slice d1 d2 d3)).setCell ⟨w.heap.size + 1, 0, none⟩ .nilIface) := Mod.setCell (S := fun b => b = w.heap.size ∨ b = w.heap.size + 1) (mod14 (S := fun b => b = w.heap.size ∨ b = w.heap.size + 1) (Mod.refl _ w5) (.inl (.inl rfl)) _ _ _ _ _ _ _ _ _ _ _ _ _ _) (p := ⟨w.heap.size + 1, 0, none⟩) (.inl (.inr rfl)) _
        obtain ⟨w6, hw6⟩ : ∃ w6, (((((((((((((((w5.setCell ⟨w.heap.size, 0, none⟩ (.int .i64 kd)).setCell ⟨w.heap.size, 1, none⟩ (.int .i64 fr)).setCell ⟨w.heap.size, 2, none⟩ (.int .i64 tt)).setCell ⟨w.heap.size, 3, none⟩ (.int .i64 tm)).setCell ⟨w.heap.size, 4, none⟩ (.int .i64 ix)).setCell ⟨w.heap.size, 5, none⟩ (.int .i64 lt)).setCell ⟨w.heap.size, 6, none⟩ (.int .i64 cm)).setCell ⟨w.heap.size, 7, none⟩ (.int .i64 rd)).setCell ⟨w.heap.size, 8, none⟩ (.bool ok)).setCell ⟨w.heap.size, 9, none⟩ (.slice e1 e2 e3)).setCell ⟨w.heap.size, 10, none⟩ (.int .i64 si)).setCell ⟨w.heap.size, 11, none⟩ (.int .i64 st)).setCell ⟨w.heap.size, 12, none⟩ (.slice n1 n2 n3)).setCell ⟨w.heap.size, 13, none⟩ (.slice d1 d2 d3)).setCell ⟨w.heap.size + 1, 0, none⟩ .nilIface) = w6 := ⟨_, rfl⟩
        rw [hw6] at hS6 hE6 hM6
        clear c0 zc0 c1 zc1 c2 zc2 c3 zc3 c4 zc4 c5 zc5 c6 zc6 c7 zc7 c8 zc8 c9 zc9 c10 zc10 c11 zc11 c12 zc12 c13 zc13 ce ze
        simp only [hw6]
        clear hw6
        have hL6 := HLK.out (fun b => b = w.heap.size ∨ b = w.heap.size + 1) w6 ((HM35.out.mono (fun b hb => .inl hb)).trans hM6 (fun b hb => .inl hb)) (fun b hb => by rcases hb with hb | hb <;> omega)
        have HL6 := Lib.hid hL6
        have HM6 := Lib.hid (HM5.out.trans hM6 (fun b hb => .inr (by rcases hb with hb | hb <;> omega)))
        have ce : w6.cell? ⟨w.heap.size + 1, 0, none⟩ = some .nilIface := hE6.cell 0
        have c0 : w6.cell? ⟨w.heap.size, 0, none⟩ = some (.int .i64 kd) := hS6.cell 0
        have c1 : w6.cell? ⟨w.heap.size, 1, none⟩ = some (.int .i64 fr) := hS6.cell 1
        have c2 : w6.cell? ⟨w.heap.size, 2, none⟩ = some (.int .i64 tt) := hS6.cell 2
        have c3 : w6.cell? ⟨w.heap.size, 3, none⟩ = some (.int .i64 tm) := hS6.cell 3
        have c4 : w6.cell? ⟨w.heap.size, 4, none⟩ = some (.int .i64 ix) := hS6.cell 4
        have c5 : w6.cell? ⟨w.heap.size, 5, none⟩ = some (.int .i64 lt) := hS6.cell 5
        have c6 : w6.cell? ⟨w.heap.size, 6, none⟩ = some (.int .i64 cm) := hS6.cell 6
        have c7 : w6.cell? ⟨w.heap.size, 7, none⟩ = some (.int .i64 rd) := hS6.cell 7
        have c8 : w6.cell? ⟨w.heap.size, 8, none⟩ = some (.bool ok) := hS6.cell 8
        have c9 : w6.cell? ⟨w.heap.size, 9, none⟩ = some (.slice e1 e2 e3) := hS6.cell 9
        have c10 : w6.cell? ⟨w.heap.size, 10, none⟩ = some (.int .i64 si) := hS6.cell 10
        have c11 : w6.cell? ⟨w.heap.size, 11, none⟩ = some (.int .i64 st) := hS6.cell 11
        have c12 : w6.cell? ⟨w.heap.size, 12, none⟩ = some (.slice n1 n2 n3) := hS6.cell 12
        have c13 : w6.cell? ⟨w.heap.size, 13, none⟩ = some (.slice d1 d2 d3) := hS6.cell 13
        clear hS6 hE6 hM6 hL6 HLK HM35 HM5 HS5 HE5 HL5
        refine leaves_cons (f := 36) (args := #[.pointer (some ⟨w.heap.size, 0, none⟩), .pointer (some ⟨w.heap.size + 1, 0, none⟩)]) (by simp) (by simp [go_sem]) ?_
        refine (catch_none _ _ w6).mono ?_
        rintro e u' w9 ⟨rfl, rfl, rfl⟩
        simp [Leaves, settle, results, Tryd.results14, go_sem, ce, c0, c1, c2, c3, c4, c5, c6, c7, c8, c9, c10, c11, c12, c13]
        rw [HOE.out]
        exact ⟨_, _, _, rfl, HL6.out, HM6.out⟩
end Go.Proofs.YtknaaaphdjdaoaaDoor
