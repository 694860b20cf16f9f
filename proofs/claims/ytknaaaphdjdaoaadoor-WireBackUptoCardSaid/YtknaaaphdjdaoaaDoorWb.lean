/-
  WireBack's walk.
-/
import Derived.Test.YtknaaaphdjdaoaaDoorWa
import Derived.Test.YtknaaaphdjdaoaaDoorPi
namespace Go.Proofs.YtknaaaphdjdaoaaDoor
open Go.RowKit Mem
set_option linter.unusedVariables false
set_option linter.unusedSimpArgs false

theorem RdC.front {w : World} {x : Addr} {m c : Nat} {l r : Bs} (h : RdC w (.slice (some x) m c) (l ++ r)) : RdC w (.slice (some x) l.length c) l := by
  obtain ⟨h1, A, c', hv, hl, hm⟩ := h
  injection hv with e1 e2 e3
  subst e3
  rw [List.length_append] at hl
  refine ⟨.inr ⟨x, c, rfl, fun j u hj => ?_⟩, some x, c, rfl, by omega, hm⟩
  rcases h1 with ⟨hv, _⟩ | ⟨x', c'', hv, hc⟩
  · cases hv
  · injection hv with f1 f2 f3
    injection f1 with f1
    subst f1
    refine hc j u ?_
    have hj2 : j < (bts l).length := (List.getElem?_eq_some_iff.1 hj).1
    rw [bts_app, List.getElem?_append_left hj2]
    exact hj
set_option maxRecDepth 100000 in
set_option maxHeartbeats 3200000 in
theorem RdC.take {w : World} {x : Addr} {n c : Nat} {l : Bs} (h : RdC w (.slice (some x) n c) l) (k : Nat) (hk : k ≤ n) : RdC w (.slice (some x) k c) (l.take k) := by
  have hn := h.len
  have e : RdC w (.slice (some x) n c) (l.take k ++ l.drop k) := by rw [List.take_append_drop]; exact h
  have := e.front
  rwa [List.length_take, Nat.min_eq_left (by omega)] at this
/-- append([]byte{}, b...), as bytes of the call's own. -/
theorem copy_big (w : World) (v : Value) (l : Bs) (h : Rd w v l) (hl : l.length ≤ 4194304) :
    ∃ A c w', (Builtin.append_ #[24, 24] 24 #[.slice (some ⟨w.heap.size, 0, none⟩) 0 0, v]).run Tryd.prog (w.alloc (.cells #[] 5)) = .ok (.slice A l.length c) w' ∧ Ob w w' (.slice A l.length c) l ∧ Mod (fun _ => False) w w' := by
  have hal : Mod (fun _ => False) w (w.alloc (.cells #[] 5)) := (Mod.refl _ w).alloc _
  have hown0 : (w.alloc (.cells #[] 5)).ownsRow w.heap.size 5 1 (.slice (some ⟨w.heap.size, 0, none⟩) 0 0) 0 [] :=
    own_of (Blk.new w #[] 5) (Nat.le_refl _) (Nat.le_refl _) (Nat.zero_le _) (by simp) (by simp)
  have hR := h.mod hal
  rcases hR with ⟨rfl, rfl⟩ | ⟨x, c, rfl, hc⟩
  · exact ⟨_, _, _, el5.app_none w.heap.size 0 _ [] _ hown0, ob_own hown0, hal⟩
  · obtain ⟨A1, k1, w1, hr1, ho1, hm1, hv1, hs1⟩ := el5.app w.heap.size 0 _ [] _ hown0 x l.length c (bts l) (by unfold maxLen; omega) (by omega) (by rw [bts_len, Nat.mul_one]) hc (fun u hu => by
      simp only [bts, List.mem_map] at hu
      obtain ⟨z, _, rfl⟩ := hu
      rfl) hal.size
    rw [Nat.zero_add] at hr1 ho1
    exact ⟨A1, k1, w1, hr1, ob_own ho1, hal.trans (T := fun b => b = w.heap.size) (hm1.mono (fun b hb => by simpa [Value.ownBlock, eq_comm] using hb)) (fun i hi => .inr (by omega))⟩
theorem copy_at (w : World) (v : Value) (l : Bs) (h : Rd w v l) (hl : l.length ≤ 4194304) {g : Nat} (hg : g = w.heap.size) :
    ∃ A c w', (Builtin.append_ #[24, 24] 24 #[.slice (some ⟨g, 0, none⟩) 0 0, v]).run Tryd.prog (w.alloc (.cells #[] 5)) = .ok (.slice A l.length c) w' ∧ Ob w w' (.slice A l.length c) l ∧ Mod (fun _ => False) w w' := by
  subst hg
  exact copy_big w v l h hl
/-- What Decode answers, of bytes that are a letter: a letter that is the one at hand, by what is asked of it. -/
def DecY (S : Array Value → World → Prop) (w : World) (e : Ending) (w' : World) : Prop :=
  ∃ (j0 j1 j2 j3 j4 j5 j6 j7 : Int) (o8 : Bool) (e1 : Option Addr) (e2 e3 : Nat) (j9 j10 : Int) (m1 : Option Addr) (m2 m3 : Nat) (d1 : Option Addr) (d2 d3 : Nat), e = .returned (.tuple #[.agg #[.int .i64 j0, .int .i64 j1, .int .i64 j2, .int .i64 j3, .int .i64 j4, .int .i64 j5, .int .i64 j6, .int .i64 j7, .bool o8, .slice e1 e2 e3, .int .i64 j9, .int .i64 j10, .slice m1 m2 m3, .slice d1 d2 d3], .nilIface]) ∧ S #[.int .i64 j0, .int .i64 j1, .int .i64 j2, .int .i64 j3, .int .i64 j4, .int .i64 j5, .int .i64 j6, .int .i64 j7, .bool o8, .slice e1 e2 e3, .int .i64 j9, .int .i64 j10, .slice m1 m2 m3, .slice d1 d2 d3] w' ∧ Mod (fun _ => False) w w'
/-- What Decode answers, of bytes that are none. -/
def DecN (w : World) (e : Ending) (w' : World) : Prop := ∃ fb, e = .returned (.tuple #[.agg zcells, .iface 66 (.pointer (some ⟨fb, 0, none⟩))]) ∧ Mod (fun _ => False) w w'
theorem decs_y {w w' : World} {e : Ending} {m : Lt} (h : Decs w (.ok m) e w') : DecY (fun xs w'' => ∃ ev nv dv, Value.agg xs = lval m ev nv dv ∧ LV w'' ev nv dv m) w e w' := by
  obtain ⟨ev, nv, dv, he, hl, hm⟩ := h
  obtain ⟨e1, e3, rfl⟩ := hl.1.val
  obtain ⟨n1, n3, rfl⟩ := hl.2.1.val
  obtain ⟨_, d1, d3, rfl, _⟩ := id hl.2.2
  exact ⟨_, _, _, _, _, _, _, _, _, _, _, _, _, _, _, _, _, _, _, _, he, ⟨_, _, _, rfl, hl⟩, hm⟩
theorem decs_n {w w' : World} {e : Ending} {p : Nat} (h : Decs w (.error p) e w') : DecN w e w' := by
  obtain ⟨fb, he, _, hm⟩ := h
  exact ⟨fb, he, hm⟩
theorem DecY.mono {S T : Array Value → World → Prop} {w w' : World} {e : Ending} (h : DecY S w e w') (hst : ∀ xs w', S xs w' → T xs w') : DecY T w e w' := by
  obtain ⟨j0, j1, j2, j3, j4, j5, j6, j7, o8, e1, e2, e3, j9, j10, m1, m2, m3, d1, d2, d3, he, hs, hm⟩ := h
  exact ⟨j0, j1, j2, j3, j4, j5, j6, j7, o8, e1, e2, e3, j9, j10, m1, m2, m3, d1, d2, d3, he, hst _ _ hs, hm⟩
/-- Bytes' Decode, whatever they are: a letter whose bytes they are, or none. -/
def DecB (b : Bs) (w : World) (e : Ending) (w' : World) : Prop :=
  DecY (fun xs w'' => ∀ w3, Mod (fun _ => False) w'' w3 → Calls Tryd.prog 11 #[.agg xs] w3 (EncZ true b w3)) w e w' ∨ DecN w e w'
/-- The end of the law: bytes b that came in. -/
def Tail (b : Bs) (bv : Value) (w : World) : Prop := (∀ w', Mod (fun _ => False) w w' → Calls Tryd.prog 14 #[bv] w' (DecB b w')) ∧ (∀ w', Calls Tryd.prog 15 #[.agg zcells, .agg zcells] w' (LookB true w')) ∧ (∀ w', Mod (fun _ => False) w w' → Rd w' bv b)
theorem u8_cut (k : Nat) : ((UInt8.ofNat k).toNat : Int) = (k : Int) % 256 := by simp
set_option maxRecDepth 100000 in
set_option maxHeartbeats 12800000 in
theorem back_core (z0 z1 z2 z3 z4 z5 z6 z7 z8 z9 z10 z11 z12 z13 : Value) (w : World) (la ra : Bool) (E b : Bs) (a1 : Option Addr) (n1 q1 : Nat) (cut : Int) (hcut : -9223372036854775808 ≤ cut ∧ cut ≤ 9223372036854775807) (hg : ErrT w)
    (hla : ∀ w', Mod (fun _ => False) w w' → Calls Tryd.prog 8 #[.agg #[z0, z1, z2, z3, z4, z5, z6, z7, z8, z9, z10, z11, z12, z13]] w' (LookB la w'))
    (hea : ∀ w', Mod (fun _ => False) w w' → Calls Tryd.prog 11 #[.agg #[z0, z1, z2, z3, z4, z5, z6, z7, z8, z9, z10, z11, z12, z13]] w' (EncZ ra E w'))
    (hra : ∀ w', Mod (fun _ => False) w w' → Calls Tryd.prog 12 #[.agg #[z0, z1, z2, z3, z4, z5, z6, z7, z8, z9, z10, z11, z12, z13]] w' (LookB ra w'))
    (hE : ra = true → 0 < E.length ∧ E.length ≤ 1000000)
    (hdy : ra = true → ∀ w' a c, Mod (fun _ => False) w w' → RdC w' (.slice a E.length c) E → Calls Tryd.prog 14 #[.slice a E.length c] w' (DecY (fun xs w'' => ∀ w3, Mod (fun _ => False) w'' w3 → Calls Tryd.prog 15 #[.agg xs, .agg #[z0, z1, z2, z3, z4, z5, z6, z7, z8, z9, z10, z11, z12, z13]] w3 (LookB true w3)) w'))
    (hdn : ra = true → ∀ w' a n c l, Mod (fun _ => False) w w' → RdC w' (.slice a n c) l → ((∃ x, x ≠ [] ∧ l ++ x = E) ∨ (∃ y, l = E ++ [y])) → Calls Tryd.prog 14 #[.slice a n c] w' (DecN w'))
    (htl : Tail b (.slice a1 n1 q1) w) :
    Calls Tryd.prog 4 #[.agg #[z0, z1, z2, z3, z4, z5, z6, z7, z8, z9, z10, z11, z12, z13], .slice a1 n1 q1, .int .i64 cut] w fun e w' => e = .returned (.bool true) ∧ Mod (fun _ => False) w w' := by
  have HLA := Lib.hid hla
  have HEA := Lib.hid hea
  have HRA := Lib.hid hra
  have HEL := Lib.hid hE
  have HDY := Lib.hid hdy
  have HDN := Lib.hid hdn
  have HTL := Lib.hid htl
  have HG := Lib.hid hg
  have HB0 := Lib.hid (Blk.new w #[z0, z1, z2, z3, z4, z5, z6, z7, z8, z9, z10, z11, z12, z13] 28)
  have HM0 : Hid (Mod (fun _ => False) w (w.alloc (.cells #[z0, z1, z2, z3, z4, z5, z6, z7, z8, z9, z10, z11, z12, z13] 28))) := Lib.hid ((Mod.refl _ w).alloc _)
  clear hla hea hra hE hdy hdn htl hg
  go_enter Tryd.func4, Tryd.ntmps4
  go_wp2_with (fail)
  refine (shown_any _ (HG.out.mod HM0.out)).mono ?_
  rintro e w1 ⟨rfl, hm1⟩
  have HM1 := Lib.hid (md_then HM0.out hm1)
  have HB1 := Lib.hid (HB0.out.mod hm1 (fun h => h))
  clear hm1 HM0 HB0 HG
  have c0 : w1.cell? ⟨w.heap.size, 0, none⟩ = some (z0) := HB1.out.cell 0
  have c1 : w1.cell? ⟨w.heap.size, 1, none⟩ = some (z1) := HB1.out.cell 1
  have c2 : w1.cell? ⟨w.heap.size, 2, none⟩ = some (z2) := HB1.out.cell 2
  have c3 : w1.cell? ⟨w.heap.size, 3, none⟩ = some (z3) := HB1.out.cell 3
  have c4 : w1.cell? ⟨w.heap.size, 4, none⟩ = some (z4) := HB1.out.cell 4
  have c5 : w1.cell? ⟨w.heap.size, 5, none⟩ = some (z5) := HB1.out.cell 5
  have c6 : w1.cell? ⟨w.heap.size, 6, none⟩ = some (z6) := HB1.out.cell 6
  have c7 : w1.cell? ⟨w.heap.size, 7, none⟩ = some (z7) := HB1.out.cell 7
  have c8 : w1.cell? ⟨w.heap.size, 8, none⟩ = some (z8) := HB1.out.cell 8
  have c9 : w1.cell? ⟨w.heap.size, 9, none⟩ = some (z9) := HB1.out.cell 9
  have c10 : w1.cell? ⟨w.heap.size, 10, none⟩ = some (z10) := HB1.out.cell 10
  have c11 : w1.cell? ⟨w.heap.size, 11, none⟩ = some (z11) := HB1.out.cell 11
  have c12 : w1.cell? ⟨w.heap.size, 12, none⟩ = some (z12) := HB1.out.cell 12
  have c13 : w1.cell? ⟨w.heap.size, 13, none⟩ = some (z13) := HB1.out.cell 13
  go_wp2_with (fail)
  refine (HLA.out _ HM1.out).mono ?_
  rintro e w2 ⟨rfl, hm2⟩
  have HM2 := Lib.hid (md_then HM1.out hm2)
  have HB2 := Lib.hid (HB1.out.mod hm2 (fun h => h))
  clear hm2 HB1 HM1
  clear c0 c1 c2 c3 c4 c5 c6 c7 c8 c9 c10 c11 c12 c13
  cases la with
  | true =>
    go_wp2_with (fail)
    go_ret
    exact ⟨rfl, HM2.out⟩
  | false =>
  have c0 : w2.cell? ⟨w.heap.size, 0, none⟩ = some (z0) := HB2.out.cell 0
  have c1 : w2.cell? ⟨w.heap.size, 1, none⟩ = some (z1) := HB2.out.cell 1
  have c2 : w2.cell? ⟨w.heap.size, 2, none⟩ = some (z2) := HB2.out.cell 2
  have c3 : w2.cell? ⟨w.heap.size, 3, none⟩ = some (z3) := HB2.out.cell 3
  have c4 : w2.cell? ⟨w.heap.size, 4, none⟩ = some (z4) := HB2.out.cell 4
  have c5 : w2.cell? ⟨w.heap.size, 5, none⟩ = some (z5) := HB2.out.cell 5
  have c6 : w2.cell? ⟨w.heap.size, 6, none⟩ = some (z6) := HB2.out.cell 6
  have c7 : w2.cell? ⟨w.heap.size, 7, none⟩ = some (z7) := HB2.out.cell 7
  have c8 : w2.cell? ⟨w.heap.size, 8, none⟩ = some (z8) := HB2.out.cell 8
  have c9 : w2.cell? ⟨w.heap.size, 9, none⟩ = some (z9) := HB2.out.cell 9
  have c10 : w2.cell? ⟨w.heap.size, 10, none⟩ = some (z10) := HB2.out.cell 10
  have c11 : w2.cell? ⟨w.heap.size, 11, none⟩ = some (z11) := HB2.out.cell 11
  have c12 : w2.cell? ⟨w.heap.size, 12, none⟩ = some (z12) := HB2.out.cell 12
  have c13 : w2.cell? ⟨w.heap.size, 13, none⟩ = some (z13) := HB2.out.cell 13
  go_wp2_with (fail)
  refine (HEA.out _ HM2.out).mono ?_
  rintro e w3 h3
  rcases h3 with ⟨hr, v3, rfl, hO3, hm3⟩ | ⟨hr, rfl, hm3⟩
  rotate_left
  · subst hr
    have HM3 := Lib.hid (md_then HM2.out hm3)
    have HB3 := Lib.hid (HB2.out.mod hm3 (fun h => h))
    clear hm3 HB2 HM2
    clear c0 c1 c2 c3 c4 c5 c6 c7 c8 c9 c10 c11 c12 c13
    have c0 : w3.cell? ⟨w.heap.size, 0, none⟩ = some (z0) := HB3.out.cell 0
    have c1 : w3.cell? ⟨w.heap.size, 1, none⟩ = some (z1) := HB3.out.cell 1
    have c2 : w3.cell? ⟨w.heap.size, 2, none⟩ = some (z2) := HB3.out.cell 2
    have c3 : w3.cell? ⟨w.heap.size, 3, none⟩ = some (z3) := HB3.out.cell 3
    have c4 : w3.cell? ⟨w.heap.size, 4, none⟩ = some (z4) := HB3.out.cell 4
    have c5 : w3.cell? ⟨w.heap.size, 5, none⟩ = some (z5) := HB3.out.cell 5
    have c6 : w3.cell? ⟨w.heap.size, 6, none⟩ = some (z6) := HB3.out.cell 6
    have c7 : w3.cell? ⟨w.heap.size, 7, none⟩ = some (z7) := HB3.out.cell 7
    have c8 : w3.cell? ⟨w.heap.size, 8, none⟩ = some (z8) := HB3.out.cell 8
    have c9 : w3.cell? ⟨w.heap.size, 9, none⟩ = some (z9) := HB3.out.cell 9
    have c10 : w3.cell? ⟨w.heap.size, 10, none⟩ = some (z10) := HB3.out.cell 10
    have c11 : w3.cell? ⟨w.heap.size, 11, none⟩ = some (z11) := HB3.out.cell 11
    have c12 : w3.cell? ⟨w.heap.size, 12, none⟩ = some (z12) := HB3.out.cell 12
    have c13 : w3.cell? ⟨w.heap.size, 13, none⟩ = some (z13) := HB3.out.cell 13
    go_wp2_with (fail)
    refine (HRA.out _ HM3.out).mono ?_
    rintro e w4 ⟨rfl, hm4⟩
    have HM4 := Lib.hid (md_then HM3.out hm4)
    have HB4 := Lib.hid (HB3.out.mod hm4 (fun h => h))
    clear hm4 HB3 HM3
    clear c0 c1 c2 c3 c4 c5 c6 c7 c8 c9 c10 c11 c12 c13
    clear HEA HRA HDY HDN HLA HEL HB4
    go_wp2_with (fail)
    refine (HTL.out.1 _ HM4.out).mono ?_
    rintro e w10 h10
    have HM10 := Lib.hid h10
    rcases h10 with ⟨j0, j1, j2, j3, j4, j5, j6, j7, o8, e1, e2, e3, j9, j10, m1, m2, m3, d1, d2, d3, rfl, hS10, hm10⟩ | ⟨fb, rfl, hm10⟩
    · have HS10 := Lib.hid hS10
      have HX10 := Lib.hid (Blk.new w10 #[.int .i64 j0, .int .i64 j1, .int .i64 j2, .int .i64 j3, .int .i64 j4, .int .i64 j5, .int .i64 j6, .int .i64 j7, .bool o8, .slice e1 e2 e3, .int .i64 j9, .int .i64 j10, .slice m1 m2 m3, .slice d1 d2 d3] 28)
      have HMa : Hid (Mod (fun _ => False) w (w10.alloc (Obj.cells #[.int .i64 j0, .int .i64 j1, .int .i64 j2, .int .i64 j3, .int .i64 j4, .int .i64 j5, .int .i64 j6, .int .i64 j7, .bool o8, .slice e1 e2 e3, .int .i64 j9, .int .i64 j10, .slice m1 m2 m3, .slice d1 d2 d3] 28))) := Lib.hid ((md_then HM4.out hm10).alloc _)
      clear hS10 hm10 HM10 HM4
      have c0 : (w10.alloc (Obj.cells #[.int .i64 j0, .int .i64 j1, .int .i64 j2, .int .i64 j3, .int .i64 j4, .int .i64 j5, .int .i64 j6, .int .i64 j7, .bool o8, .slice e1 e2 e3, .int .i64 j9, .int .i64 j10, .slice m1 m2 m3, .slice d1 d2 d3] 28)).cell? ⟨w10.heap.size, 0, none⟩ = some (.int .i64 j0) := HX10.out.cell 0
      have c1 : (w10.alloc (Obj.cells #[.int .i64 j0, .int .i64 j1, .int .i64 j2, .int .i64 j3, .int .i64 j4, .int .i64 j5, .int .i64 j6, .int .i64 j7, .bool o8, .slice e1 e2 e3, .int .i64 j9, .int .i64 j10, .slice m1 m2 m3, .slice d1 d2 d3] 28)).cell? ⟨w10.heap.size, 1, none⟩ = some (.int .i64 j1) := HX10.out.cell 1
      have c2 : (w10.alloc (Obj.cells #[.int .i64 j0, .int .i64 j1, .int .i64 j2, .int .i64 j3, .int .i64 j4, .int .i64 j5, .int .i64 j6, .int .i64 j7, .bool o8, .slice e1 e2 e3, .int .i64 j9, .int .i64 j10, .slice m1 m2 m3, .slice d1 d2 d3] 28)).cell? ⟨w10.heap.size, 2, none⟩ = some (.int .i64 j2) := HX10.out.cell 2
      have c3 : (w10.alloc (Obj.cells #[.int .i64 j0, .int .i64 j1, .int .i64 j2, .int .i64 j3, .int .i64 j4, .int .i64 j5, .int .i64 j6, .int .i64 j7, .bool o8, .slice e1 e2 e3, .int .i64 j9, .int .i64 j10, .slice m1 m2 m3, .slice d1 d2 d3] 28)).cell? ⟨w10.heap.size, 3, none⟩ = some (.int .i64 j3) := HX10.out.cell 3
      have c4 : (w10.alloc (Obj.cells #[.int .i64 j0, .int .i64 j1, .int .i64 j2, .int .i64 j3, .int .i64 j4, .int .i64 j5, .int .i64 j6, .int .i64 j7, .bool o8, .slice e1 e2 e3, .int .i64 j9, .int .i64 j10, .slice m1 m2 m3, .slice d1 d2 d3] 28)).cell? ⟨w10.heap.size, 4, none⟩ = some (.int .i64 j4) := HX10.out.cell 4
      have c5 : (w10.alloc (Obj.cells #[.int .i64 j0, .int .i64 j1, .int .i64 j2, .int .i64 j3, .int .i64 j4, .int .i64 j5, .int .i64 j6, .int .i64 j7, .bool o8, .slice e1 e2 e3, .int .i64 j9, .int .i64 j10, .slice m1 m2 m3, .slice d1 d2 d3] 28)).cell? ⟨w10.heap.size, 5, none⟩ = some (.int .i64 j5) := HX10.out.cell 5
      have c6 : (w10.alloc (Obj.cells #[.int .i64 j0, .int .i64 j1, .int .i64 j2, .int .i64 j3, .int .i64 j4, .int .i64 j5, .int .i64 j6, .int .i64 j7, .bool o8, .slice e1 e2 e3, .int .i64 j9, .int .i64 j10, .slice m1 m2 m3, .slice d1 d2 d3] 28)).cell? ⟨w10.heap.size, 6, none⟩ = some (.int .i64 j6) := HX10.out.cell 6
      have c7 : (w10.alloc (Obj.cells #[.int .i64 j0, .int .i64 j1, .int .i64 j2, .int .i64 j3, .int .i64 j4, .int .i64 j5, .int .i64 j6, .int .i64 j7, .bool o8, .slice e1 e2 e3, .int .i64 j9, .int .i64 j10, .slice m1 m2 m3, .slice d1 d2 d3] 28)).cell? ⟨w10.heap.size, 7, none⟩ = some (.int .i64 j7) := HX10.out.cell 7
      have c8 : (w10.alloc (Obj.cells #[.int .i64 j0, .int .i64 j1, .int .i64 j2, .int .i64 j3, .int .i64 j4, .int .i64 j5, .int .i64 j6, .int .i64 j7, .bool o8, .slice e1 e2 e3, .int .i64 j9, .int .i64 j10, .slice m1 m2 m3, .slice d1 d2 d3] 28)).cell? ⟨w10.heap.size, 8, none⟩ = some (.bool o8) := HX10.out.cell 8
      have c9 : (w10.alloc (Obj.cells #[.int .i64 j0, .int .i64 j1, .int .i64 j2, .int .i64 j3, .int .i64 j4, .int .i64 j5, .int .i64 j6, .int .i64 j7, .bool o8, .slice e1 e2 e3, .int .i64 j9, .int .i64 j10, .slice m1 m2 m3, .slice d1 d2 d3] 28)).cell? ⟨w10.heap.size, 9, none⟩ = some (.slice e1 e2 e3) := HX10.out.cell 9
      have c10 : (w10.alloc (Obj.cells #[.int .i64 j0, .int .i64 j1, .int .i64 j2, .int .i64 j3, .int .i64 j4, .int .i64 j5, .int .i64 j6, .int .i64 j7, .bool o8, .slice e1 e2 e3, .int .i64 j9, .int .i64 j10, .slice m1 m2 m3, .slice d1 d2 d3] 28)).cell? ⟨w10.heap.size, 10, none⟩ = some (.int .i64 j9) := HX10.out.cell 10
      have c11 : (w10.alloc (Obj.cells #[.int .i64 j0, .int .i64 j1, .int .i64 j2, .int .i64 j3, .int .i64 j4, .int .i64 j5, .int .i64 j6, .int .i64 j7, .bool o8, .slice e1 e2 e3, .int .i64 j9, .int .i64 j10, .slice m1 m2 m3, .slice d1 d2 d3] 28)).cell? ⟨w10.heap.size, 11, none⟩ = some (.int .i64 j10) := HX10.out.cell 11
      have c12 : (w10.alloc (Obj.cells #[.int .i64 j0, .int .i64 j1, .int .i64 j2, .int .i64 j3, .int .i64 j4, .int .i64 j5, .int .i64 j6, .int .i64 j7, .bool o8, .slice e1 e2 e3, .int .i64 j9, .int .i64 j10, .slice m1 m2 m3, .slice d1 d2 d3] 28)).cell? ⟨w10.heap.size, 12, none⟩ = some (.slice m1 m2 m3) := HX10.out.cell 12
      have c13 : (w10.alloc (Obj.cells #[.int .i64 j0, .int .i64 j1, .int .i64 j2, .int .i64 j3, .int .i64 j4, .int .i64 j5, .int .i64 j6, .int .i64 j7, .bool o8, .slice e1 e2 e3, .int .i64 j9, .int .i64 j10, .slice m1 m2 m3, .slice d1 d2 d3] 28)).cell? ⟨w10.heap.size, 13, none⟩ = some (.slice d1 d2 d3) := HX10.out.cell 13
      go_wp2_with (fail)
      refine (HS10.out _ ((Mod.refl (fun _ => False) w10).alloc _)).mono ?_
      rintro e w11 (⟨_, v11, rfl, hO11, hm11⟩ | ⟨hbad, _⟩)
      rotate_left
      · cases hbad
      have HMb := Lib.hid (md_then HMa.out hm11)
      have t1 := hO11.text
      have t2 := (HTL.out.2.2 _ HMb.out).text
      clear HS10 HX10 HMa hO11 hm11 HTL
      clear c0 c1 c2 c3 c4 c5 c6 c7 c8 c9 c10 c11 c12 c13
      obtain ⟨S, hS⟩ : ∃ S, sv b = S := ⟨_, rfl⟩
      rw [hS] at t1 t2
      clear hS
      go_wp2_with (fail)
      go_ret
      exact ⟨rfl, HMb.out⟩
    · have HMa : Hid (Mod (fun _ => False) w (w10.alloc (Obj.cells #[.int .i64 0, .int .i64 0, .int .i64 0, .int .i64 0, .int .i64 0, .int .i64 0, .int .i64 0, .int .i64 0, .bool false, .slice none 0 0, .int .i64 0, .int .i64 0, .slice none 0 0, .slice none 0 0] 28))) := Lib.hid ((md_then HM4.out hm10).alloc _)
      have HX10 := Lib.hid (Blk.new w10 #[.int .i64 0, .int .i64 0, .int .i64 0, .int .i64 0, .int .i64 0, .int .i64 0, .int .i64 0, .int .i64 0, .bool false, .slice none 0 0, .int .i64 0, .int .i64 0, .slice none 0 0, .slice none 0 0] 28)
      have HSz := Lib.hid HTL.out.2.1
      clear hm10 HM10 HM4 HTL
      unfold zcells at HSz ⊢
      have c0 : (w10.alloc (Obj.cells #[.int .i64 0, .int .i64 0, .int .i64 0, .int .i64 0, .int .i64 0, .int .i64 0, .int .i64 0, .int .i64 0, .bool false, .slice none 0 0, .int .i64 0, .int .i64 0, .slice none 0 0, .slice none 0 0] 28)).cell? ⟨w10.heap.size, 0, none⟩ = some (.int .i64 0) := HX10.out.cell 0
      have c1 : (w10.alloc (Obj.cells #[.int .i64 0, .int .i64 0, .int .i64 0, .int .i64 0, .int .i64 0, .int .i64 0, .int .i64 0, .int .i64 0, .bool false, .slice none 0 0, .int .i64 0, .int .i64 0, .slice none 0 0, .slice none 0 0] 28)).cell? ⟨w10.heap.size, 1, none⟩ = some (.int .i64 0) := HX10.out.cell 1
      have c2 : (w10.alloc (Obj.cells #[.int .i64 0, .int .i64 0, .int .i64 0, .int .i64 0, .int .i64 0, .int .i64 0, .int .i64 0, .int .i64 0, .bool false, .slice none 0 0, .int .i64 0, .int .i64 0, .slice none 0 0, .slice none 0 0] 28)).cell? ⟨w10.heap.size, 2, none⟩ = some (.int .i64 0) := HX10.out.cell 2
      have c3 : (w10.alloc (Obj.cells #[.int .i64 0, .int .i64 0, .int .i64 0, .int .i64 0, .int .i64 0, .int .i64 0, .int .i64 0, .int .i64 0, .bool false, .slice none 0 0, .int .i64 0, .int .i64 0, .slice none 0 0, .slice none 0 0] 28)).cell? ⟨w10.heap.size, 3, none⟩ = some (.int .i64 0) := HX10.out.cell 3
      have c4 : (w10.alloc (Obj.cells #[.int .i64 0, .int .i64 0, .int .i64 0, .int .i64 0, .int .i64 0, .int .i64 0, .int .i64 0, .int .i64 0, .bool false, .slice none 0 0, .int .i64 0, .int .i64 0, .slice none 0 0, .slice none 0 0] 28)).cell? ⟨w10.heap.size, 4, none⟩ = some (.int .i64 0) := HX10.out.cell 4
      have c5 : (w10.alloc (Obj.cells #[.int .i64 0, .int .i64 0, .int .i64 0, .int .i64 0, .int .i64 0, .int .i64 0, .int .i64 0, .int .i64 0, .bool false, .slice none 0 0, .int .i64 0, .int .i64 0, .slice none 0 0, .slice none 0 0] 28)).cell? ⟨w10.heap.size, 5, none⟩ = some (.int .i64 0) := HX10.out.cell 5
      have c6 : (w10.alloc (Obj.cells #[.int .i64 0, .int .i64 0, .int .i64 0, .int .i64 0, .int .i64 0, .int .i64 0, .int .i64 0, .int .i64 0, .bool false, .slice none 0 0, .int .i64 0, .int .i64 0, .slice none 0 0, .slice none 0 0] 28)).cell? ⟨w10.heap.size, 6, none⟩ = some (.int .i64 0) := HX10.out.cell 6
      have c7 : (w10.alloc (Obj.cells #[.int .i64 0, .int .i64 0, .int .i64 0, .int .i64 0, .int .i64 0, .int .i64 0, .int .i64 0, .int .i64 0, .bool false, .slice none 0 0, .int .i64 0, .int .i64 0, .slice none 0 0, .slice none 0 0] 28)).cell? ⟨w10.heap.size, 7, none⟩ = some (.int .i64 0) := HX10.out.cell 7
      have c8 : (w10.alloc (Obj.cells #[.int .i64 0, .int .i64 0, .int .i64 0, .int .i64 0, .int .i64 0, .int .i64 0, .int .i64 0, .int .i64 0, .bool false, .slice none 0 0, .int .i64 0, .int .i64 0, .slice none 0 0, .slice none 0 0] 28)).cell? ⟨w10.heap.size, 8, none⟩ = some (.bool false) := HX10.out.cell 8
      have c9 : (w10.alloc (Obj.cells #[.int .i64 0, .int .i64 0, .int .i64 0, .int .i64 0, .int .i64 0, .int .i64 0, .int .i64 0, .int .i64 0, .bool false, .slice none 0 0, .int .i64 0, .int .i64 0, .slice none 0 0, .slice none 0 0] 28)).cell? ⟨w10.heap.size, 9, none⟩ = some (.slice none 0 0) := HX10.out.cell 9
      have c10 : (w10.alloc (Obj.cells #[.int .i64 0, .int .i64 0, .int .i64 0, .int .i64 0, .int .i64 0, .int .i64 0, .int .i64 0, .int .i64 0, .bool false, .slice none 0 0, .int .i64 0, .int .i64 0, .slice none 0 0, .slice none 0 0] 28)).cell? ⟨w10.heap.size, 10, none⟩ = some (.int .i64 0) := HX10.out.cell 10
      have c11 : (w10.alloc (Obj.cells #[.int .i64 0, .int .i64 0, .int .i64 0, .int .i64 0, .int .i64 0, .int .i64 0, .int .i64 0, .int .i64 0, .bool false, .slice none 0 0, .int .i64 0, .int .i64 0, .slice none 0 0, .slice none 0 0] 28)).cell? ⟨w10.heap.size, 11, none⟩ = some (.int .i64 0) := HX10.out.cell 11
      have c12 : (w10.alloc (Obj.cells #[.int .i64 0, .int .i64 0, .int .i64 0, .int .i64 0, .int .i64 0, .int .i64 0, .int .i64 0, .int .i64 0, .bool false, .slice none 0 0, .int .i64 0, .int .i64 0, .slice none 0 0, .slice none 0 0] 28)).cell? ⟨w10.heap.size, 12, none⟩ = some (.slice none 0 0) := HX10.out.cell 12
      have c13 : (w10.alloc (Obj.cells #[.int .i64 0, .int .i64 0, .int .i64 0, .int .i64 0, .int .i64 0, .int .i64 0, .int .i64 0, .int .i64 0, .bool false, .slice none 0 0, .int .i64 0, .int .i64 0, .slice none 0 0, .slice none 0 0] 28)).cell? ⟨w10.heap.size, 13, none⟩ = some (.slice none 0 0) := HX10.out.cell 13
      go_wp2_with (fail)
      refine (HSz.out _).mono ?_
      rintro e w11 ⟨rfl, hm11⟩
      have HMb := Lib.hid (md_then HMa.out hm11)
      clear HSz HX10 HMa hm11
      clear c0 c1 c2 c3 c4 c5 c6 c7 c8 c9 c10 c11 c12 c13
      go_wp2_with (fail)
      go_ret
      exact ⟨rfl, HMb.out⟩
  · subst hr
    have HEl := Lib.hid (HEL.out rfl)
    have HDy := Lib.hid (HDY.out rfl)
    have HDn := Lib.hid (HDN.out rfl)
    clear HDY HDN
    have HO3 := Lib.hid hO3
    have HM3 := Lib.hid (md_then HM2.out hm3)
    have HB3 := Lib.hid (HB2.out.mod hm3 (fun h => h))
    clear hm3 HB2 HM2
    clear c0 c1 c2 c3 c4 c5 c6 c7 c8 c9 c10 c11 c12 c13
    have c0 : w3.cell? ⟨w.heap.size, 0, none⟩ = some (z0) := HB3.out.cell 0
    have c1 : w3.cell? ⟨w.heap.size, 1, none⟩ = some (z1) := HB3.out.cell 1
    have c2 : w3.cell? ⟨w.heap.size, 2, none⟩ = some (z2) := HB3.out.cell 2
    have c3 : w3.cell? ⟨w.heap.size, 3, none⟩ = some (z3) := HB3.out.cell 3
    have c4 : w3.cell? ⟨w.heap.size, 4, none⟩ = some (z4) := HB3.out.cell 4
    have c5 : w3.cell? ⟨w.heap.size, 5, none⟩ = some (z5) := HB3.out.cell 5
    have c6 : w3.cell? ⟨w.heap.size, 6, none⟩ = some (z6) := HB3.out.cell 6
    have c7 : w3.cell? ⟨w.heap.size, 7, none⟩ = some (z7) := HB3.out.cell 7
    have c8 : w3.cell? ⟨w.heap.size, 8, none⟩ = some (z8) := HB3.out.cell 8
    have c9 : w3.cell? ⟨w.heap.size, 9, none⟩ = some (z9) := HB3.out.cell 9
    have c10 : w3.cell? ⟨w.heap.size, 10, none⟩ = some (z10) := HB3.out.cell 10
    have c11 : w3.cell? ⟨w.heap.size, 11, none⟩ = some (z11) := HB3.out.cell 11
    have c12 : w3.cell? ⟨w.heap.size, 12, none⟩ = some (z12) := HB3.out.cell 12
    have c13 : w3.cell? ⟨w.heap.size, 13, none⟩ = some (z13) := HB3.out.cell 13
    obtain ⟨A3, q3, rfl, hq3⟩ : ∃ (A3 : Addr) (q3 : Nat), v3 = .slice (some A3) E.length q3 ∧ E.length ≤ q3 := by
      rcases hO3.rd with ⟨hz, A, c, rfl, hlc, _⟩
      rcases hz with ⟨hz, h0⟩ | ⟨x, c', hz, _⟩
      · have := HEl.out.1; rw [h0] at this; cases this
      · injection hz with h1 _ h3
        subst h1 h3
        exact ⟨x, c, rfl, hlc⟩
    clear hO3
    have hl0 : 0 < E.length := HEl.out.1
    have hl0' : (0 : Int) < (E.length : Int) := by omega
    go_wp2_with (fail)
    refine (HRA.out _ HM3.out).mono ?_
    rintro e w4 ⟨rfl, hm4⟩
    have HO4 := Lib.hid (HO3.out.mod hm4)
    have HM4 := Lib.hid (md_then HM3.out hm4)
    have HB4 := Lib.hid (HB3.out.mod hm4 (fun h => h))
    clear hm4 HB3 HM3
    clear c0 c1 c2 c3 c4 c5 c6 c7 c8 c9 c10 c11 c12 c13
    clear HO3 HEA HRA HLA HEL
    go_wp2_with (fail)
    refine (HDy.out _ _ _ HM4.out HO4.out.rd).mono ?_
    rintro e w5 ⟨j0, j1, j2, j3, j4, j5, j6, j7, o8, e1, e2, e3, j9, j10, m1, m2, m3, d1, d2, d3, rfl, hS5, hm5⟩
    have HO5 := Lib.hid (HO4.out.mod hm5)
    have HS5 := Lib.hid hS5
    have HX5 := Lib.hid (Blk.new w5 #[.int .i64 j0, .int .i64 j1, .int .i64 j2, .int .i64 j3, .int .i64 j4, .int .i64 j5, .int .i64 j6, .int .i64 j7, .bool o8, .slice e1 e2 e3, .int .i64 j9, .int .i64 j10, .slice m1 m2 m3, .slice d1 d2 d3] 28)
    have HO6 := Lib.hid (HO5.out.mod ((Mod.refl (fun _ => False) w5).alloc (Obj.cells #[.int .i64 j0, .int .i64 j1, .int .i64 j2, .int .i64 j3, .int .i64 j4, .int .i64 j5, .int .i64 j6, .int .i64 j7, .bool o8, .slice e1 e2 e3, .int .i64 j9, .int .i64 j10, .slice m1 m2 m3, .slice d1 d2 d3] 28)))
    have HM6' : Hid (Mod (fun _ => False) w (w5.alloc (Obj.cells #[.int .i64 j0, .int .i64 j1, .int .i64 j2, .int .i64 j3, .int .i64 j4, .int .i64 j5, .int .i64 j6, .int .i64 j7, .bool o8, .slice e1 e2 e3, .int .i64 j9, .int .i64 j10, .slice m1 m2 m3, .slice d1 d2 d3] 28))) := Lib.hid ((md_then HM4.out hm5).alloc _)
    have HB6' := Lib.hid ((HB4.out.mod hm5 (fun h => h)).alloc (Obj.cells #[.int .i64 j0, .int .i64 j1, .int .i64 j2, .int .i64 j3, .int .i64 j4, .int .i64 j5, .int .i64 j6, .int .i64 j7, .bool o8, .slice e1 e2 e3, .int .i64 j9, .int .i64 j10, .slice m1 m2 m3, .slice d1 d2 d3] 28))
    clear hm5 hS5 HO4 HO5 HM4 HB4 HDy
    have c0 : (w5.alloc (Obj.cells #[.int .i64 j0, .int .i64 j1, .int .i64 j2, .int .i64 j3, .int .i64 j4, .int .i64 j5, .int .i64 j6, .int .i64 j7, .bool o8, .slice e1 e2 e3, .int .i64 j9, .int .i64 j10, .slice m1 m2 m3, .slice d1 d2 d3] 28)).cell? ⟨w.heap.size, 0, none⟩ = some (z0) := HB6'.out.cell 0
    have c1 : (w5.alloc (Obj.cells #[.int .i64 j0, .int .i64 j1, .int .i64 j2, .int .i64 j3, .int .i64 j4, .int .i64 j5, .int .i64 j6, .int .i64 j7, .bool o8, .slice e1 e2 e3, .int .i64 j9, .int .i64 j10, .slice m1 m2 m3, .slice d1 d2 d3] 28)).cell? ⟨w.heap.size, 1, none⟩ = some (z1) := HB6'.out.cell 1
    have c2 : (w5.alloc (Obj.cells #[.int .i64 j0, .int .i64 j1, .int .i64 j2, .int .i64 j3, .int .i64 j4, .int .i64 j5, .int .i64 j6, .int .i64 j7, .bool o8, .slice e1 e2 e3, .int .i64 j9, .int .i64 j10, .slice m1 m2 m3, .slice d1 d2 d3] 28)).cell? ⟨w.heap.size, 2, none⟩ = some (z2) := HB6'.out.cell 2
    have c3 : (w5.alloc (Obj.cells #[.int .i64 j0, .int .i64 j1, .int .i64 j2, .int .i64 j3, .int .i64 j4, .int .i64 j5, .int .i64 j6, .int .i64 j7, .bool o8, .slice e1 e2 e3, .int .i64 j9, .int .i64 j10, .slice m1 m2 m3, .slice d1 d2 d3] 28)).cell? ⟨w.heap.size, 3, none⟩ = some (z3) := HB6'.out.cell 3
    have c4 : (w5.alloc (Obj.cells #[.int .i64 j0, .int .i64 j1, .int .i64 j2, .int .i64 j3, .int .i64 j4, .int .i64 j5, .int .i64 j6, .int .i64 j7, .bool o8, .slice e1 e2 e3, .int .i64 j9, .int .i64 j10, .slice m1 m2 m3, .slice d1 d2 d3] 28)).cell? ⟨w.heap.size, 4, none⟩ = some (z4) := HB6'.out.cell 4
    have c5 : (w5.alloc (Obj.cells #[.int .i64 j0, .int .i64 j1, .int .i64 j2, .int .i64 j3, .int .i64 j4, .int .i64 j5, .int .i64 j6, .int .i64 j7, .bool o8, .slice e1 e2 e3, .int .i64 j9, .int .i64 j10, .slice m1 m2 m3, .slice d1 d2 d3] 28)).cell? ⟨w.heap.size, 5, none⟩ = some (z5) := HB6'.out.cell 5
    have c6 : (w5.alloc (Obj.cells #[.int .i64 j0, .int .i64 j1, .int .i64 j2, .int .i64 j3, .int .i64 j4, .int .i64 j5, .int .i64 j6, .int .i64 j7, .bool o8, .slice e1 e2 e3, .int .i64 j9, .int .i64 j10, .slice m1 m2 m3, .slice d1 d2 d3] 28)).cell? ⟨w.heap.size, 6, none⟩ = some (z6) := HB6'.out.cell 6
    have c7 : (w5.alloc (Obj.cells #[.int .i64 j0, .int .i64 j1, .int .i64 j2, .int .i64 j3, .int .i64 j4, .int .i64 j5, .int .i64 j6, .int .i64 j7, .bool o8, .slice e1 e2 e3, .int .i64 j9, .int .i64 j10, .slice m1 m2 m3, .slice d1 d2 d3] 28)).cell? ⟨w.heap.size, 7, none⟩ = some (z7) := HB6'.out.cell 7
    have c8 : (w5.alloc (Obj.cells #[.int .i64 j0, .int .i64 j1, .int .i64 j2, .int .i64 j3, .int .i64 j4, .int .i64 j5, .int .i64 j6, .int .i64 j7, .bool o8, .slice e1 e2 e3, .int .i64 j9, .int .i64 j10, .slice m1 m2 m3, .slice d1 d2 d3] 28)).cell? ⟨w.heap.size, 8, none⟩ = some (z8) := HB6'.out.cell 8
    have c9 : (w5.alloc (Obj.cells #[.int .i64 j0, .int .i64 j1, .int .i64 j2, .int .i64 j3, .int .i64 j4, .int .i64 j5, .int .i64 j6, .int .i64 j7, .bool o8, .slice e1 e2 e3, .int .i64 j9, .int .i64 j10, .slice m1 m2 m3, .slice d1 d2 d3] 28)).cell? ⟨w.heap.size, 9, none⟩ = some (z9) := HB6'.out.cell 9
    have c10 : (w5.alloc (Obj.cells #[.int .i64 j0, .int .i64 j1, .int .i64 j2, .int .i64 j3, .int .i64 j4, .int .i64 j5, .int .i64 j6, .int .i64 j7, .bool o8, .slice e1 e2 e3, .int .i64 j9, .int .i64 j10, .slice m1 m2 m3, .slice d1 d2 d3] 28)).cell? ⟨w.heap.size, 10, none⟩ = some (z10) := HB6'.out.cell 10
    have c11 : (w5.alloc (Obj.cells #[.int .i64 j0, .int .i64 j1, .int .i64 j2, .int .i64 j3, .int .i64 j4, .int .i64 j5, .int .i64 j6, .int .i64 j7, .bool o8, .slice e1 e2 e3, .int .i64 j9, .int .i64 j10, .slice m1 m2 m3, .slice d1 d2 d3] 28)).cell? ⟨w.heap.size, 11, none⟩ = some (z11) := HB6'.out.cell 11
    have c12 : (w5.alloc (Obj.cells #[.int .i64 j0, .int .i64 j1, .int .i64 j2, .int .i64 j3, .int .i64 j4, .int .i64 j5, .int .i64 j6, .int .i64 j7, .bool o8, .slice e1 e2 e3, .int .i64 j9, .int .i64 j10, .slice m1 m2 m3, .slice d1 d2 d3] 28)).cell? ⟨w.heap.size, 12, none⟩ = some (z12) := HB6'.out.cell 12
    have c13 : (w5.alloc (Obj.cells #[.int .i64 j0, .int .i64 j1, .int .i64 j2, .int .i64 j3, .int .i64 j4, .int .i64 j5, .int .i64 j6, .int .i64 j7, .bool o8, .slice e1 e2 e3, .int .i64 j9, .int .i64 j10, .slice m1 m2 m3, .slice d1 d2 d3] 28)).cell? ⟨w.heap.size, 13, none⟩ = some (z13) := HB6'.out.cell 13
    go_wp2_with (fail)
    refine (HS5.out _ ((Mod.refl (fun _ => False) w5).alloc _)).mono ?_
    rintro e w6 ⟨rfl, hm6⟩
    have HO7 := Lib.hid (HO6.out.mod hm6)
    have HM7 := Lib.hid (md_then HM6'.out hm6)
    clear c0 c1 c2 c3 c4 c5 c6 c7 c8 c9 c10 c11 c12 c13
    clear hm6 HO6 HM6' HB6' HX5 HS5
    obtain ⟨K, hK, hKc⟩ : ∃ K : Nat, (if cut < 0 then -(cut + 1) else cut) = (K : Int) ∧ (K : Int) ≤ 9223372036854775807 := ⟨(if cut < 0 then -(cut + 1) else cut).toNat, by split <;> omega, by split <;> omega⟩
    have HK := Lib.hid hK
    clear hK
    go_upto_if 57 with (fail)
    go_cut [2] (fun v wx => v = .int .i64 (K : Int) ∧ wx = w6)
    case first =>
      by_cases hneg : cut < 0
      · have hk := HK.out
        rw [if_pos hneg] at hk
        have hw : IntKind.i64.wrap (cut + 1) = cut + 1 := by rw [IntKind.wrap_i64]; omega
        have HKK := Lib.hid hk
        clear hk
        go_wp2_with (fail)
        go_meet
        case rel => exact ⟨by rw [← HKK.out], rfl⟩
      · have hk := HK.out
        rw [if_neg hneg] at hk
        subst hk
        go_wp2_with (fail)
        go_meet
        case rel => exact ⟨rfl, rfl⟩
    case rest =>
      obtain ⟨rfl, rfl⟩ := hcut
      clear HK
      have hkm : K % E.length < E.length := Nat.mod_lt _ hl0
      have hcc : 0 ≤ (K : Int) % (E.length : Int) ∧ (K : Int) % (E.length : Int) ≤ (q3 : Int) := by
        rw [← Int.natCast_emod]; omega
      have HKM := Lib.hid hkm
      clear hkm
      go_wp2_with (fail)
      refine (HDn.out _ _ _ _ _ HM7.out (HO7.out.rd.take (K % E.length) (Nat.le_of_lt HKM.out)) (.inl ⟨E.drop (K % E.length), fun h => by
        have h1 := congrArg List.length h
        have h2 := HKM.out
        rw [List.length_drop, List.length_nil] at h1
        omega, List.take_append_drop _ _⟩)).mono ?_
      rintro e w8 ⟨fb8, rfl, hm8⟩
      have HO8 := Lib.hid (HO7.out.mod (hm8.alloc (Obj.cells #[.int .i64 0, .int .i64 0, .int .i64 0, .int .i64 0, .int .i64 0, .int .i64 0, .int .i64 0, .int .i64 0, .bool false, .slice none 0 0, .int .i64 0, .int .i64 0, .slice none 0 0, .slice none 0 0] 28)))
      have HM8 : Hid (Mod (fun _ => False) w (w8.alloc (Obj.cells #[.int .i64 0, .int .i64 0, .int .i64 0, .int .i64 0, .int .i64 0, .int .i64 0, .int .i64 0, .int .i64 0, .bool false, .slice none 0 0, .int .i64 0, .int .i64 0, .slice none 0 0, .slice none 0 0] 28))) := Lib.hid ((md_then HM7.out hm8).alloc _)
      obtain ⟨A9, c9, w9, hr9, hO9, hm9⟩ := copy_at _ _ _ HO8.out.rd.1 (by have := HEl.out.2; omega) (g := w8.heap.size + 1) (by simp)
      have HM9 := Lib.hid (md_then HM8.out hm9)
      obtain ⟨B9, d9, w10, hr10, hO10, hm10, _⟩ := hO9.app1U (UInt8.ofNat K) hm9 (by have := HEl.out.2; omega)
      rw [u8_cut] at hr10
      have HO10 := Lib.hid (show RdC w10 (.slice B9 (E.length + 1) d9) (E ++ [UInt8.ofNat K]) from hO10.rd)
      have HM10 := Lib.hid (md_then HM8.out hm10)
      clear hm8 HO7 HM7 hcc hO9 hO10 hm9 hm10 HM9
      unfold zcells
      go_wp2_with (at_builtin; first | refine wpList_append_run rfl _ _ 24 24 rfl _ _ rfl rfl hr9 ?_ | refine wpList_append_run rfl _ _ 24 24 rfl _ _ rfl rfl hr10 ?_)
      refine (HDn.out _ _ _ _ _ HM10.out HO10.out (.inr ⟨_, rfl⟩)).mono ?_
      rintro e w11 ⟨fb11, rfl, hm11⟩
      have HM11 : Hid (Mod (fun _ => False) w (w11.alloc (Obj.cells #[.int .i64 0, .int .i64 0, .int .i64 0, .int .i64 0, .int .i64 0, .int .i64 0, .int .i64 0, .int .i64 0, .bool false, .slice none 0 0, .int .i64 0, .int .i64 0, .slice none 0 0, .slice none 0 0] 28))) := Lib.hid ((md_then HM10.out hm11).alloc _)
      clear hm11 HM10 HO10 hr9 hr10 HDn HO8 HM8
      unfold zcells
      go_wp2_with (fail)
      refine (HTL.out.1 _ HM11.out).mono ?_
      rintro e w20 h20
      have HM20 := Lib.hid h20
      rcases h20 with ⟨j0, j1, j2, j3, j4, j5, j6, j7, o8, e1, e2, e3, j9, j10, m1, m2, m3, d1, d2, d3, rfl, hS20, hm20⟩ | ⟨fb, rfl, hm20⟩
      · have HS20 := Lib.hid hS20
        have HX20 := Lib.hid (Blk.new w20 #[.int .i64 j0, .int .i64 j1, .int .i64 j2, .int .i64 j3, .int .i64 j4, .int .i64 j5, .int .i64 j6, .int .i64 j7, .bool o8, .slice e1 e2 e3, .int .i64 j9, .int .i64 j10, .slice m1 m2 m3, .slice d1 d2 d3] 28)
        have HMa : Hid (Mod (fun _ => False) w (w20.alloc (Obj.cells #[.int .i64 j0, .int .i64 j1, .int .i64 j2, .int .i64 j3, .int .i64 j4, .int .i64 j5, .int .i64 j6, .int .i64 j7, .bool o8, .slice e1 e2 e3, .int .i64 j9, .int .i64 j10, .slice m1 m2 m3, .slice d1 d2 d3] 28))) := Lib.hid ((md_then HM11.out hm20).alloc _)
        clear hS20 hm20 HM20 HM11
        have c0 : (w20.alloc (Obj.cells #[.int .i64 j0, .int .i64 j1, .int .i64 j2, .int .i64 j3, .int .i64 j4, .int .i64 j5, .int .i64 j6, .int .i64 j7, .bool o8, .slice e1 e2 e3, .int .i64 j9, .int .i64 j10, .slice m1 m2 m3, .slice d1 d2 d3] 28)).cell? ⟨w20.heap.size, 0, none⟩ = some (.int .i64 j0) := HX20.out.cell 0
        have c1 : (w20.alloc (Obj.cells #[.int .i64 j0, .int .i64 j1, .int .i64 j2, .int .i64 j3, .int .i64 j4, .int .i64 j5, .int .i64 j6, .int .i64 j7, .bool o8, .slice e1 e2 e3, .int .i64 j9, .int .i64 j10, .slice m1 m2 m3, .slice d1 d2 d3] 28)).cell? ⟨w20.heap.size, 1, none⟩ = some (.int .i64 j1) := HX20.out.cell 1
        have c2 : (w20.alloc (Obj.cells #[.int .i64 j0, .int .i64 j1, .int .i64 j2, .int .i64 j3, .int .i64 j4, .int .i64 j5, .int .i64 j6, .int .i64 j7, .bool o8, .slice e1 e2 e3, .int .i64 j9, .int .i64 j10, .slice m1 m2 m3, .slice d1 d2 d3] 28)).cell? ⟨w20.heap.size, 2, none⟩ = some (.int .i64 j2) := HX20.out.cell 2
        have c3 : (w20.alloc (Obj.cells #[.int .i64 j0, .int .i64 j1, .int .i64 j2, .int .i64 j3, .int .i64 j4, .int .i64 j5, .int .i64 j6, .int .i64 j7, .bool o8, .slice e1 e2 e3, .int .i64 j9, .int .i64 j10, .slice m1 m2 m3, .slice d1 d2 d3] 28)).cell? ⟨w20.heap.size, 3, none⟩ = some (.int .i64 j3) := HX20.out.cell 3
        have c4 : (w20.alloc (Obj.cells #[.int .i64 j0, .int .i64 j1, .int .i64 j2, .int .i64 j3, .int .i64 j4, .int .i64 j5, .int .i64 j6, .int .i64 j7, .bool o8, .slice e1 e2 e3, .int .i64 j9, .int .i64 j10, .slice m1 m2 m3, .slice d1 d2 d3] 28)).cell? ⟨w20.heap.size, 4, none⟩ = some (.int .i64 j4) := HX20.out.cell 4
        have c5 : (w20.alloc (Obj.cells #[.int .i64 j0, .int .i64 j1, .int .i64 j2, .int .i64 j3, .int .i64 j4, .int .i64 j5, .int .i64 j6, .int .i64 j7, .bool o8, .slice e1 e2 e3, .int .i64 j9, .int .i64 j10, .slice m1 m2 m3, .slice d1 d2 d3] 28)).cell? ⟨w20.heap.size, 5, none⟩ = some (.int .i64 j5) := HX20.out.cell 5
        have c6 : (w20.alloc (Obj.cells #[.int .i64 j0, .int .i64 j1, .int .i64 j2, .int .i64 j3, .int .i64 j4, .int .i64 j5, .int .i64 j6, .int .i64 j7, .bool o8, .slice e1 e2 e3, .int .i64 j9, .int .i64 j10, .slice m1 m2 m3, .slice d1 d2 d3] 28)).cell? ⟨w20.heap.size, 6, none⟩ = some (.int .i64 j6) := HX20.out.cell 6
        have c7 : (w20.alloc (Obj.cells #[.int .i64 j0, .int .i64 j1, .int .i64 j2, .int .i64 j3, .int .i64 j4, .int .i64 j5, .int .i64 j6, .int .i64 j7, .bool o8, .slice e1 e2 e3, .int .i64 j9, .int .i64 j10, .slice m1 m2 m3, .slice d1 d2 d3] 28)).cell? ⟨w20.heap.size, 7, none⟩ = some (.int .i64 j7) := HX20.out.cell 7
        have c8 : (w20.alloc (Obj.cells #[.int .i64 j0, .int .i64 j1, .int .i64 j2, .int .i64 j3, .int .i64 j4, .int .i64 j5, .int .i64 j6, .int .i64 j7, .bool o8, .slice e1 e2 e3, .int .i64 j9, .int .i64 j10, .slice m1 m2 m3, .slice d1 d2 d3] 28)).cell? ⟨w20.heap.size, 8, none⟩ = some (.bool o8) := HX20.out.cell 8
        have c9 : (w20.alloc (Obj.cells #[.int .i64 j0, .int .i64 j1, .int .i64 j2, .int .i64 j3, .int .i64 j4, .int .i64 j5, .int .i64 j6, .int .i64 j7, .bool o8, .slice e1 e2 e3, .int .i64 j9, .int .i64 j10, .slice m1 m2 m3, .slice d1 d2 d3] 28)).cell? ⟨w20.heap.size, 9, none⟩ = some (.slice e1 e2 e3) := HX20.out.cell 9
        have c10 : (w20.alloc (Obj.cells #[.int .i64 j0, .int .i64 j1, .int .i64 j2, .int .i64 j3, .int .i64 j4, .int .i64 j5, .int .i64 j6, .int .i64 j7, .bool o8, .slice e1 e2 e3, .int .i64 j9, .int .i64 j10, .slice m1 m2 m3, .slice d1 d2 d3] 28)).cell? ⟨w20.heap.size, 10, none⟩ = some (.int .i64 j9) := HX20.out.cell 10
        have c11 : (w20.alloc (Obj.cells #[.int .i64 j0, .int .i64 j1, .int .i64 j2, .int .i64 j3, .int .i64 j4, .int .i64 j5, .int .i64 j6, .int .i64 j7, .bool o8, .slice e1 e2 e3, .int .i64 j9, .int .i64 j10, .slice m1 m2 m3, .slice d1 d2 d3] 28)).cell? ⟨w20.heap.size, 11, none⟩ = some (.int .i64 j10) := HX20.out.cell 11
        have c12 : (w20.alloc (Obj.cells #[.int .i64 j0, .int .i64 j1, .int .i64 j2, .int .i64 j3, .int .i64 j4, .int .i64 j5, .int .i64 j6, .int .i64 j7, .bool o8, .slice e1 e2 e3, .int .i64 j9, .int .i64 j10, .slice m1 m2 m3, .slice d1 d2 d3] 28)).cell? ⟨w20.heap.size, 12, none⟩ = some (.slice m1 m2 m3) := HX20.out.cell 12
        have c13 : (w20.alloc (Obj.cells #[.int .i64 j0, .int .i64 j1, .int .i64 j2, .int .i64 j3, .int .i64 j4, .int .i64 j5, .int .i64 j6, .int .i64 j7, .bool o8, .slice e1 e2 e3, .int .i64 j9, .int .i64 j10, .slice m1 m2 m3, .slice d1 d2 d3] 28)).cell? ⟨w20.heap.size, 13, none⟩ = some (.slice d1 d2 d3) := HX20.out.cell 13
        go_wp2_with (fail)
        refine (HS20.out _ ((Mod.refl (fun _ => False) w20).alloc _)).mono ?_
        rintro e w11 (⟨_, v11, rfl, hO11, hm11⟩ | ⟨hbad, _⟩)
        rotate_left
        · cases hbad
        have HMb := Lib.hid (md_then HMa.out hm11)
        have t1 := hO11.text
        have t2 := (HTL.out.2.2 _ HMb.out).text
        clear HS20 HX20 HMa hO11 hm11 HTL
        clear c0 c1 c2 c3 c4 c5 c6 c7 c8 c9 c10 c11 c12 c13
        obtain ⟨S, hS⟩ : ∃ S, sv b = S := ⟨_, rfl⟩
        rw [hS] at t1 t2
        clear hS
        go_wp2_with (fail)
        go_ret
        exact ⟨rfl, HMb.out⟩
      · have HMa : Hid (Mod (fun _ => False) w (w20.alloc (Obj.cells #[.int .i64 0, .int .i64 0, .int .i64 0, .int .i64 0, .int .i64 0, .int .i64 0, .int .i64 0, .int .i64 0, .bool false, .slice none 0 0, .int .i64 0, .int .i64 0, .slice none 0 0, .slice none 0 0] 28))) := Lib.hid ((md_then HM11.out hm20).alloc _)
        have HX20 := Lib.hid (Blk.new w20 #[.int .i64 0, .int .i64 0, .int .i64 0, .int .i64 0, .int .i64 0, .int .i64 0, .int .i64 0, .int .i64 0, .bool false, .slice none 0 0, .int .i64 0, .int .i64 0, .slice none 0 0, .slice none 0 0] 28)
        have HSz := Lib.hid HTL.out.2.1
        clear hm20 HM20 HM11 HTL
        unfold zcells at HSz ⊢
        have c0 : (w20.alloc (Obj.cells #[.int .i64 0, .int .i64 0, .int .i64 0, .int .i64 0, .int .i64 0, .int .i64 0, .int .i64 0, .int .i64 0, .bool false, .slice none 0 0, .int .i64 0, .int .i64 0, .slice none 0 0, .slice none 0 0] 28)).cell? ⟨w20.heap.size, 0, none⟩ = some (.int .i64 0) := HX20.out.cell 0
        have c1 : (w20.alloc (Obj.cells #[.int .i64 0, .int .i64 0, .int .i64 0, .int .i64 0, .int .i64 0, .int .i64 0, .int .i64 0, .int .i64 0, .bool false, .slice none 0 0, .int .i64 0, .int .i64 0, .slice none 0 0, .slice none 0 0] 28)).cell? ⟨w20.heap.size, 1, none⟩ = some (.int .i64 0) := HX20.out.cell 1
        have c2 : (w20.alloc (Obj.cells #[.int .i64 0, .int .i64 0, .int .i64 0, .int .i64 0, .int .i64 0, .int .i64 0, .int .i64 0, .int .i64 0, .bool false, .slice none 0 0, .int .i64 0, .int .i64 0, .slice none 0 0, .slice none 0 0] 28)).cell? ⟨w20.heap.size, 2, none⟩ = some (.int .i64 0) := HX20.out.cell 2
        have c3 : (w20.alloc (Obj.cells #[.int .i64 0, .int .i64 0, .int .i64 0, .int .i64 0, .int .i64 0, .int .i64 0, .int .i64 0, .int .i64 0, .bool false, .slice none 0 0, .int .i64 0, .int .i64 0, .slice none 0 0, .slice none 0 0] 28)).cell? ⟨w20.heap.size, 3, none⟩ = some (.int .i64 0) := HX20.out.cell 3
        have c4 : (w20.alloc (Obj.cells #[.int .i64 0, .int .i64 0, .int .i64 0, .int .i64 0, .int .i64 0, .int .i64 0, .int .i64 0, .int .i64 0, .bool false, .slice none 0 0, .int .i64 0, .int .i64 0, .slice none 0 0, .slice none 0 0] 28)).cell? ⟨w20.heap.size, 4, none⟩ = some (.int .i64 0) := HX20.out.cell 4
        have c5 : (w20.alloc (Obj.cells #[.int .i64 0, .int .i64 0, .int .i64 0, .int .i64 0, .int .i64 0, .int .i64 0, .int .i64 0, .int .i64 0, .bool false, .slice none 0 0, .int .i64 0, .int .i64 0, .slice none 0 0, .slice none 0 0] 28)).cell? ⟨w20.heap.size, 5, none⟩ = some (.int .i64 0) := HX20.out.cell 5
        have c6 : (w20.alloc (Obj.cells #[.int .i64 0, .int .i64 0, .int .i64 0, .int .i64 0, .int .i64 0, .int .i64 0, .int .i64 0, .int .i64 0, .bool false, .slice none 0 0, .int .i64 0, .int .i64 0, .slice none 0 0, .slice none 0 0] 28)).cell? ⟨w20.heap.size, 6, none⟩ = some (.int .i64 0) := HX20.out.cell 6
        have c7 : (w20.alloc (Obj.cells #[.int .i64 0, .int .i64 0, .int .i64 0, .int .i64 0, .int .i64 0, .int .i64 0, .int .i64 0, .int .i64 0, .bool false, .slice none 0 0, .int .i64 0, .int .i64 0, .slice none 0 0, .slice none 0 0] 28)).cell? ⟨w20.heap.size, 7, none⟩ = some (.int .i64 0) := HX20.out.cell 7
        have c8 : (w20.alloc (Obj.cells #[.int .i64 0, .int .i64 0, .int .i64 0, .int .i64 0, .int .i64 0, .int .i64 0, .int .i64 0, .int .i64 0, .bool false, .slice none 0 0, .int .i64 0, .int .i64 0, .slice none 0 0, .slice none 0 0] 28)).cell? ⟨w20.heap.size, 8, none⟩ = some (.bool false) := HX20.out.cell 8
        have c9 : (w20.alloc (Obj.cells #[.int .i64 0, .int .i64 0, .int .i64 0, .int .i64 0, .int .i64 0, .int .i64 0, .int .i64 0, .int .i64 0, .bool false, .slice none 0 0, .int .i64 0, .int .i64 0, .slice none 0 0, .slice none 0 0] 28)).cell? ⟨w20.heap.size, 9, none⟩ = some (.slice none 0 0) := HX20.out.cell 9
        have c10 : (w20.alloc (Obj.cells #[.int .i64 0, .int .i64 0, .int .i64 0, .int .i64 0, .int .i64 0, .int .i64 0, .int .i64 0, .int .i64 0, .bool false, .slice none 0 0, .int .i64 0, .int .i64 0, .slice none 0 0, .slice none 0 0] 28)).cell? ⟨w20.heap.size, 10, none⟩ = some (.int .i64 0) := HX20.out.cell 10
        have c11 : (w20.alloc (Obj.cells #[.int .i64 0, .int .i64 0, .int .i64 0, .int .i64 0, .int .i64 0, .int .i64 0, .int .i64 0, .int .i64 0, .bool false, .slice none 0 0, .int .i64 0, .int .i64 0, .slice none 0 0, .slice none 0 0] 28)).cell? ⟨w20.heap.size, 11, none⟩ = some (.int .i64 0) := HX20.out.cell 11
        have c12 : (w20.alloc (Obj.cells #[.int .i64 0, .int .i64 0, .int .i64 0, .int .i64 0, .int .i64 0, .int .i64 0, .int .i64 0, .int .i64 0, .bool false, .slice none 0 0, .int .i64 0, .int .i64 0, .slice none 0 0, .slice none 0 0] 28)).cell? ⟨w20.heap.size, 12, none⟩ = some (.slice none 0 0) := HX20.out.cell 12
        have c13 : (w20.alloc (Obj.cells #[.int .i64 0, .int .i64 0, .int .i64 0, .int .i64 0, .int .i64 0, .int .i64 0, .int .i64 0, .int .i64 0, .bool false, .slice none 0 0, .int .i64 0, .int .i64 0, .slice none 0 0, .slice none 0 0] 28)).cell? ⟨w20.heap.size, 13, none⟩ = some (.slice none 0 0) := HX20.out.cell 13
        go_wp2_with (fail)
        refine (HSz.out _).mono ?_
        rintro e w11 ⟨rfl, hm11⟩
        have HMb := Lib.hid (md_then HMa.out hm11)
        clear HSz HX20 HMa hm11
        clear c0 c1 c2 c3 c4 c5 c6 c7 c8 c9 c10 c11 c12 c13
        go_wp2_with (fail)
        go_ret
        exact ⟨rfl, HMb.out⟩

end Go.Proofs.YtknaaaphdjdaoaaDoor
