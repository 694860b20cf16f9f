/-
  The document's Copy, out, Take, Move.
-/
import Derived.Test.YtjhlabpnjkepbaaRa
namespace Go.Proofs.Ytjhlabpnjkepbaa
open Go.RowKit Mem
set_option linter.unusedVariables false

theorem lval_cells (l : Let) : lval l = .agg #[.int .i64 l.f, .int .i64 l.t, .string ⟨l.b.toArray⟩] := rfl
/-- One letter appended, from a block of its own. -/
theorem app_one (B n sb : Nat) (v : Value) (xs : List Value) (w : World) (hown : w.ownsRow B 39 3 v n xs) (hn : n ≤ 200) (l : Let) (hV : Blk w sb #[.int .i64 l.f, .int .i64 l.t, .string ⟨l.b.toArray⟩] 39) (hB : B ≤ w.heap.size) :
    ∃ A k w', (Builtin.append_ #[27, 27] 27 #[v, .slice (some ⟨sb, 0, none⟩) 1 1]).run Try.prog w = .ok (.slice A (n + 1) k) w' ∧ w'.ownsRow B 39 3 (.slice A (n + 1) k) (n + 1) (xs ++ lcells l) ∧ Mod (fun b => v.ownBlock = some b) w w' ∧ (∀ a, (Value.slice A (n + 1) k).ownBlock = some a → v.ownBlock = some a ∨ w.heap.size ≤ a) ∧ (v ≠ .slice none 0 0 → ∃ g, A = some ⟨g, 0, none⟩) :=
  app_ref B n v xs w hown ⟨sb, 0, none⟩ 1 1 (lcells l) (by omega) rfl (fun j u hj => by rw [Addr.add_lit, hV.cell]; simpa [lcells] using hj)
    (by intro u hu; simp only [lcells, List.mem_cons, List.not_mem_nil, or_false] at hu; rcases hu with rfl | rfl | rfl <;> rfl) hB
theorem rcells_one_letter (L : List Let) (l : Let) : rcells (L ++ [l]) = rcells L ++ lcells l := by rw [rcells_append]; simp [rcells]

/-- One letter appended to a net's row, and the row laid back. -/
theorem rput_one {B g s sb : Nat} {v : Value} {L : List Let} {w0 w : World} (l : Let) (h : RefAt B w0 g v L s) (hm : Mod (fun _ => False) w0 w) (hL : L.length < 200) (hV : Blk w sb #[.int .i64 l.f, .int .i64 l.t, .string ⟨l.b.toArray⟩] 39) :
    ∃ A k w', (Builtin.append_ #[27, 27] 27 #[v, .slice (some ⟨sb, 0, none⟩) 1 1]).run Try.prog w = .ok (.slice A (L.length + 1) k) w' ∧ w'.cell? ⟨g, 0, none⟩ = some v ∧ w'.frozen? ⟨g, 0, none⟩ = false ∧ RKept B g v (L ++ [l]) s w0 (w'.setCell ⟨g, 0, none⟩ (.slice A (L.length + 1) k)) := by
  have hw := h.new hm (fun _ h => h.elim)
  have hB : B ≤ w.heap.size := by have := hw.blk.lt; have := h.base; omega
  obtain ⟨A, k, w', hr, ho, hm', hv, _⟩ := app_one B L.length sb v (rcells L) w hw.own (by omega) l hV hB
  have hgv : ¬ (v.ownBlock = some g) := fun e => by obtain ⟨cur, hc⟩ := own_type hw.own e; exact Blk.ne hc hw.blk (by decide) rfl
  have hb' := hw.blk.mod hm' hgv
  refine ⟨A, k, w', hr, hb'.cell 0, hb'.frozen 0, (put_ref hw.blk.lt (hm'.mono (fun b hb => .inr hb)) hb' ?_ hv h.base h.sides (by simp; omega)).from_ hm⟩
  rw [rcells_one_letter, List.length_append]
  exact ho

set_option maxRecDepth 100000 in
set_option maxHeartbeats 1600000 in
theorem rcopy_any (B g s : Nat) (v : Value) (L : List Let) (i : Int) (w : World) (h : RefAt B w g v L s) : Calls Try.prog 20 #[.pointer (some ⟨g, 0, none⟩), .int .i64 i] w fun e w' => e = .returned (.bool (copyOk L i)) ∧ RKept B g v (copied L i) s w w' := by
  have hlook := rlook_any B g s v L i w h
  have Hlook := Lib.hid hlook
  have Hh := Lib.hid h
  clear hlook h
  go_enter Try.func20, Try.ntmps20
  go_wp2_with (fail)
  refine Hlook.out.mono ?_
  rintro e w2 ⟨rfl, hm2⟩
  rw [lval_cells]
  have hnet := Hh.out.new hm2 (fun _ h => h.elim)
  obtain ⟨A, c, rfl⟩ := hnet.slice
  obtain ⟨c0, c1, f0, f1⟩ := hnet.cells
  by_cases hok : hasOk L i = true
  · by_cases hL : (L.length : Int) < 200
    · have hin : 0 ≤ i ∧ i < L.length := of_decide_eq_true hok
      have hcp : copyOk L i = true := by unfold copyOk; rw [decide_eq_true]; omega
      have hcd : copied L i = L ++ [rl L i] := by
        unfold copied rl
        rw [hcp, if_pos rfl, if_pos hok]
        have : i.toNat < L.length := by omega
        simp [this]
      generalize rl L i = l at *
      rw [hok]
      have Hcp := Lib.hid hcp
      have Hcd := Lib.hid hcd
      have Hm2 := Lib.hid hm2
      have hal := (hm2.alloc (.cells #[.int .i64 l.f, .int .i64 l.t, .string ⟨l.b.toArray⟩] 39))
      have hc0 := cell_mod (w := w2) ((Mod.refl (fun _ => False) w2).alloc (.cells #[.int .i64 l.f, .int .i64 l.t, .string ⟨l.b.toArray⟩] 39)) c0 (fun h => h)
      have hbox := Blk.new w2 #[.int .i64 l.f, .int .i64 l.t, .string ⟨l.b.toArray⟩] 39
      clear hcp hcd hok hin hm2 hnet
      go_wp2
      generalize w2.alloc (.cells #[.int .i64 l.f, .int .i64 l.t, .string ⟨l.b.toArray⟩] 39) = W at *
      generalize hh7 : w2.heap.size = h7 at *
      have b0 : W.cell? ⟨h7, 0, none⟩ = some (.int .i64 l.f) := hbox.cell 0
      have b1 : W.cell? ⟨h7, 1, none⟩ = some (.int .i64 l.t) := hbox.cell 1
      have b2 : W.cell? ⟨h7, 2, none⟩ = some (.string ⟨l.b.toArray⟩) := hbox.cell 2
      have hcA := fun o => cell_mod ((Mod.refl (fun _ => False) W).alloc o) hc0 (fun h => h)
      obtain ⟨A8, k8, w8, hr8, c8, f8, hk8⟩ := rput_one (B := B) l Hh.out (hal.alloc (.cells #[.int .i64 l.f, .int .i64 l.t, .string ⟨l.b.toArray⟩] 39)).drew (by omega) (Blk.new _ _ _).drew
      have Hk8 := Lib.hid hk8
      have Hr8 := Lib.hid hr8
      clear hr8 hk8 hal hbox c0 c1 f0 f1 hh7
      go_region_law (refine step_append_run rfl _ _ 27 27 rfl _ _ (by simp [Act.eval]) (by simp [Act.eval]) Hr8.out ?_)
      all_goals (go_wp2; go_ret; exact ⟨by rw [Hcp.out]; rfl, by rw [Hcd.out]; exact Hk8.out⟩)
    · have hcp : copyOk L i = false := by unfold copyOk; rw [decide_eq_false]; omega
      have hcd : copied L i = L := by unfold copied; rw [hcp]; rfl
      generalize rl L i = l at *
      rw [hok]
      have Hcp := Lib.hid hcp
      have Hcd := Lib.hid hcd
      have hc0 := cell_mod (w := w2) ((Mod.refl (fun _ => False) w2).alloc (.cells #[.int .i64 l.f, .int .i64 l.t, .string ⟨l.b.toArray⟩] 39)) c0 (fun h => h)
      have Hfin := Lib.hid (fun o => RKept.same Hh.out (hm2.alloc o))
      clear hcp hcd hok hm2 hnet
      go_wp2
      go_ret
      exact ⟨by rw [Hcp.out]; rfl, by rw [Hcd.out]; exact Hfin.out _⟩
  · have hok' : hasOk L i = false := by simpa using hok
    have hcp : copyOk L i = false := by unfold copyOk; rw [decide_eq_false]; have := of_decide_eq_false hok'; omega
    have hcd : copied L i = L := by unfold copied; rw [hcp]; rfl
    generalize rl L i = l at *
    rw [hok']
    have Hcp := Lib.hid hcp
    have Hcd := Lib.hid hcd
    have Hfin := Lib.hid (fun o => RKept.same Hh.out (hm2.alloc o))
    clear hcp hcd hok hok' hm2 hnet
    go_wp2
    go_ret
    exact ⟨by rw [Hcp.out]; rfl, by rw [Hcd.out]; exact Hfin.out _⟩

/-- What out gives: a new row. -/
def Outs (L : List Let) (k : Nat) (w : World) (e : Ending) (w' : World) : Prop :=
  ∃ A c, e = .returned (.slice A (L.length - 1) c) ∧ w'.ownsRow w.heap.size 39 3 (.slice A (L.length - 1) c) (L.length - 1) (rcells (L.take k ++ L.drop (k + 1))) ∧ Mod (fun _ => False) w w' ∧ ∃ r, A = some ⟨r, 0, none⟩

set_option maxRecDepth 100000 in
set_option maxHeartbeats 1600000 in
theorem out_any (B g s : Nat) (v : Value) (L : List Let) (k : Nat) (w : World) (h : RefAt B w g v L s) (hk : k < L.length) : Calls Try.prog 28 #[.pointer (some ⟨g, 0, none⟩), .int .i64 (k : Int)] w (Outs L k w) := by
  obtain ⟨m, hm⟩ : ∃ m, L.length = m + 1 := ⟨L.length - 1, by omega⟩
  have hfew := h.few
  rcases own_cases h.own with ⟨_, hn0, _⟩ | ⟨a, cap, cur, rfl, hba, hB, hn, hc, hs, hx⟩
  · omega
  obtain ⟨c0, c1, f0, f1⟩ := h.cells
  have hc' := hc
  unfold maxLen at hc'
  obtain ⟨Ad, hA⟩ : ∃ Ad : Addr, (if cap = k + 1 then (some ⟨a, 0, none⟩ : Option Addr) else some ⟨a, (k + 1) * 3, none⟩) = some Ad := by split <;> exact ⟨_, rfl⟩
  have hcell : ∀ q u, (rcells L)[q]? = some u → w.cell? ⟨a, q, none⟩ = some u := fun q u hu => by
    have hj : q < L.length * 3 := by have := (List.getElem?_eq_some_iff.1 hu).1; rw [rcells_len] at this; exact this
    rw [hB.cell]
    rw [← hx, List.getElem?_take_of_lt hj] at hu
    simpa using hu
  have hal : Mod (fun _ => False) w (w.alloc (.cells #[] 39)).drew := ((Mod.refl _ w).alloc _).drew
  have hown0 : (w.alloc (.cells #[] 39)).drew.ownsRow w.heap.size 39 3 (.slice (some ⟨w.heap.size, 0, none⟩) 0 0) 0 [] :=
    own_of (Blk.new w #[] 39).drew (Nat.le_refl _) (Nat.le_refl _) (Nat.zero_le _) rfl rfl
  obtain ⟨A1, k1, w1, hr1, ho1, hm1, hv1, hs1⟩ := app_ref w.heap.size 0 _ [] _ hown0 ⟨a, 0, none⟩ k cap (rcells (L.take k)) (by omega) (by rw [rcells_len, List.length_take]; omega)
    (fun j u hj => by
      rw [Addr.add_lit, Nat.zero_add]
      refine cell_mod hal (hcell j u ?_) (fun h => h)
      rw [← rcells_take] at hj
      have := (List.getElem?_eq_some_iff.1 hj).1
      rw [List.getElem?_take_of_lt (by rw [List.length_take] at this; omega)] at hj
      exact hj) (rcells_one _) hal.size
  rw [Nat.zero_add] at hr1 ho1 hv1
  have hM1 : Mod (fun _ => False) w w1 := by
    refine hal.trans (T := fun b => b = w.heap.size) (hm1.mono (fun b hb => by simpa [Value.ownBlock, eq_comm] using hb)) (fun i hi => .inr (by omega))
  obtain ⟨A2, k2, w2, hr2, ho2, hm2, hv2, hs2⟩ := app_ref w.heap.size k _ _ _ ho1 Ad (m - k) (cap - (k + 1)) (rcells (L.drop (k + 1))) (by omega) (by rw [rcells_len, List.length_drop]; omega)
    (fun j u hj => by
      have hlt := (List.getElem?_eq_some_iff.1 hj).1
      rw [rcells_len, List.length_drop] at hlt
      rw [if_neg (by omega)] at hA
      obtain rfl := Option.some.inj hA
      rw [Addr.add_lit]
      refine cell_mod hM1 (hcell _ u ?_) (fun h => h)
      rw [← rcells_drop, List.getElem?_drop] at hj
      exact hj) (rcells_one _) hM1.size
  have hM2 : Mod (fun _ => False) w w2 := by
    refine hM1.trans hm2 (fun i hi => .inr ?_)
    exact (own_lt ho1 hi).1
  have hkm : k + (m - k) = m := by omega
  rw [hkm, List.nil_append, ← rcells_append] at ho2
  rw [hkm] at hr2
  have hfin : Outs L k w (.returned (.slice A2 m k2)) w2 := ⟨A2, k2, by rw [hm]; rfl, by rw [hm]; exact ho2, hM2, hs2 (by obtain ⟨g1, rfl⟩ := hs1 (by simp); simp)⟩
  have cS0 : w.drew.cell? ⟨g, 0, none⟩ = some (.slice (some ⟨a, 0, none⟩) (m + 1) cap) := by rw [← hm]; exact c0
  have cS1 : (w.alloc (.cells #[] 39)).drew.cell? ⟨g, 0, none⟩ = some (.slice (some ⟨a, 0, none⟩) (m + 1) cap) := cell_mod hal cS0 (fun h => h)
  have cS2 : w1.cell? ⟨g, 0, none⟩ = some (.slice (some ⟨a, 0, none⟩) (m + 1) cap) := cell_mod hM1 cS0 (fun h => h)
  have cS3 : w2.cell? ⟨g, 0, none⟩ = some (.slice (some ⟨a, 0, none⟩) (m + 1) cap) := cell_mod hM2 cS0 (fun h => h)
  have Hfin := Lib.hid hfin
  have Hr1 := Lib.hid hr1
  have Hr2 := Lib.hid hr2
  have hq1 : (k : Int) ≤ (cap : Int) := by omega
  have hq2 : (k : Int) + 1 ≤ (m : Int) + 1 := by omega
  have hq3 : (0 : Int) ≤ (k : Int) + 1 := by omega
  have hq4 : ((k : Int) + 1).toNat = k + 1 := by omega
  have hq5 : (m : Int) + 1 ≤ (cap : Int) := by omega
  have hw1 : IntKind.i64.wrap ((k : Int) + 1) = (k : Int) + 1 := by rw [IntKind.wrap_i64]; omega
  clear hfin hr1 hr2 hM2 hm2 ho2 hv2 hM1 hm1 ho1 hv1 hown0 hal hcell hB hs hx hc hc' hfew h c0 c1 f0 f1 hn
  go_enter Try.func28, Try.ntmps28
  go_wp2
  go_region_held3 (fun w' => w'.cell? ⟨g, 0, none⟩ = some (.slice (some ⟨a, 0, none⟩) (m + 1) cap)) (assumption)
    (first | (refine step_append_run rfl _ _ 27 27 rfl _ _ (by simp [Act.eval]) (by simp [Act.eval]) Hr1.out ?_) | (refine step_append_run rfl _ _ 27 27 rfl _ _ (by simp [Act.eval]) (by simp [Act.eval]) Hr2.out ?_))
  all_goals (go_wp2; go_ret; exact Hfin.out)
end Go.Proofs.Ytjhlabpnjkepbaa
