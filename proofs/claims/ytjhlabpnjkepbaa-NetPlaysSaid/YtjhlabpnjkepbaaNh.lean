/-
  Move, where it moves.
-/
import Derived.Test.YtjhlabpnjkepbaaNg
namespace Go.Proofs.Ytjhlabpnjkepbaa
open Go.RowKit Mem
set_option linter.unusedVariables false

theorem box_after {a i n cap q : Nat} {xs : List Value} {W w9 : World} {e : Ending} {cs : Array Value} (hd : Deleted a i n cap xs W e w9) (hb : Blk W q cs 57) (hq : ¬ q = a) : Blk w9 q cs 57 := hb.mod hd.2.1 hq
theorem del_size {a i n cap : Nat} {xs : List Value} {w W w9 : World} {e : Ending} (hm : Mod (fun _ => False) w W) (hd : Deleted a i n cap xs W e w9) : w.heap.size ≤ w9.heap.size := Nat.le_trans hm.size hd.2.1.size

theorem keep4 {g a h7 : Nat} {v x y z : Value} {w w' : World} (hg : ¬ g = a) (hh : ¬ h7 = a) (h : w.cell? ⟨g, 0, none⟩ = some v ∧ w.cell? ⟨h7, 0, none⟩ = some x ∧ w.cell? ⟨h7, 1, none⟩ = some y ∧ w.cell? ⟨h7, 2, none⟩ = some z) (hm : Mod (fun b => b = a) w w') :
    w'.cell? ⟨g, 0, none⟩ = some v ∧ w'.cell? ⟨h7, 0, none⟩ = some x ∧ w'.cell? ⟨h7, 1, none⟩ = some y ∧ w'.cell? ⟨h7, 2, none⟩ = some z :=
  ⟨cell_mod hm h.1 hg, cell_mod hm h.2.1 hh, cell_mod hm h.2.2.1 hh, cell_mod hm h.2.2.2 hh⟩
theorem keep4s {g h7 : Nat} {v x y z : Value} {w : World} (hg : ¬ h7 = g) (h : w.cell? ⟨g, 0, none⟩ = some v ∧ w.cell? ⟨h7, 0, none⟩ = some x ∧ w.cell? ⟨h7, 1, none⟩ = some y ∧ w.cell? ⟨h7, 2, none⟩ = some z) :
    (w.setCell ⟨g, 0, none⟩ v).cell? ⟨g, 0, none⟩ = some v ∧ (w.setCell ⟨g, 0, none⟩ v).cell? ⟨h7, 0, none⟩ = some x ∧ (w.setCell ⟨g, 0, none⟩ v).cell? ⟨h7, 1, none⟩ = some y ∧ (w.setCell ⟨g, 0, none⟩ v).cell? ⟨h7, 2, none⟩ = some z := by
  have hm : Mod (· = g) w (w.setCell ⟨g, 0, none⟩ v) := (Mod.refl (· = g) w).setCell (p := ⟨g, 0, none⟩) (.inl rfl) _
  refine ⟨?_, cell_mod hm h.2.1 hg, cell_mod hm h.2.2.1 hg, cell_mod hm h.2.2.2 hg⟩
  exact World.cell?_setCell_same _ _ _ h.1

set_option maxRecDepth 100000 in
set_option maxHeartbeats 3200000 in
theorem move_yes (B g s : Nat) (v : Value) (L : List Let) (w : World) (h : NetAt B w g v L s) (i j : Nat) (hi : i < L.length) (hj : j < L.length) :
    Calls Try.prog 14 #[.pointer (some ⟨g, 0, none⟩), .int .i64 (i : Int), .int .i64 (j : Int)] w fun e w' => e = .returned (.bool true) ∧ Kept B g v (moved1 L i j) s w w' := by
  obtain ⟨xs, ho, hl⟩ := h.own
  obtain ⟨m, hm⟩ : ∃ m, L.length = m + 1 := ⟨L.length - 1, by omega⟩
  rcases own_cases ho with ⟨_, hn0, _⟩ | ⟨a, cap, cur, rfl, hba, hB, hn, hc, hs, hx⟩
  · omega
  rw [hm] at h ho hn hx hi hj ⊢
  obtain ⟨c0, c1, f0, f1⟩ := h.cells
  obtain ⟨bv, x0, x1, x2, hby⟩ := hl.get i (by omega)
  have hli : L[i]? = some L[i] := List.getElem?_eq_getElem (by omega)
  obtain ⟨l, hll⟩ : ∃ l, L[i] = l := ⟨_, rfl⟩
  rw [hll] at x0 x1 hby hli
  obtain ⟨A, k, rfl⟩ := hby.form
  generalize l.b.length = bn at *
  have hcell : ∀ q u, xs[i * 3 + q]? = some u → w.cell? ⟨a, i * 3 + q, none⟩ = some u := fun q u hu => by
    have hj : i * 3 + q < (m + 1) * 3 := by have := (List.getElem?_eq_some_iff.1 hu).1; rw [hl.len, hm] at this; exact this
    rw [hB.cell]
    rw [← hx, List.getElem?_take_of_lt hj] at hu
    simpa using hu
  have d0 : w.cell? ⟨a, i * 3, none⟩ = some (.int .i64 l.f) := hcell 0 _ x0
  have d1 := hcell 1 _ x1
  have d2 := hcell 2 _ x2
  have hdel := fun w1 (hm1 : Mod (fun _ => False) w w1) => delete_m a i m cap cur xs w1 (hB.mod hm1 (fun h => h)) hs hx hi hn hc hl.one
  have hins := fun w1 w2 w3 e hm1 hd hm3 vb hvb hV => ins_after B g s a i j m cap L xs w w1 w2 w3 e h hm.symm hn hc cur hB hl hi hj hm1 hd hm3 vb l.f l.t A bn k hvb hV
  have hput := fun w1 w2 w3 w4 e e' hm1 hd hm3 hi' => move_put B g s a i j m cap L l xs (.slice A bn k) w w1 w2 w3 w4 e e' h hm.symm hn hc hba cur hB hl hi hj hli hby hm1 hd hm3 hi'
  have hga : ¬ g = a := Blk.ne h.blk hB (by decide)
  have hga' : ¬ w.heap.size = a := by have := hB.lt; omega
  have hga0 : a < w.heap.size := hB.lt
  have hg7 : ¬ w.heap.size = g := by have := h.blk.lt; omega
  have Hdel := Lib.hid hdel
  have Hins := Lib.hid hins
  have Hput := Lib.hid hput
  have hc' := hc
  unfold maxLen at hc'
  have hw1 : IntKind.i64.wrap ((i : Int) + 1) = (i : Int) + 1 := by rw [IntKind.wrap_i64]; omega
  have hq1 : (i : Int) < (m : Int) + 1 := by omega
  have hq2 : (j : Int) < (m : Int) + 1 := by omega
  have hq3 : ¬ ((i : Int) < 0) := by omega
  have hq4 : ¬ ((j : Int) < 0) := by omega
  have hft : ¬ ((m : Int) + 1 ≤ (if (i : Int) < (j : Int) then (j : Int) else (i : Int))) := by split <;> omega
  clear hdel hins hput hcell hli x0 x1 x2 hby ho hl hB hs hx hc hn hc' h hba hll
  by_cases hij : (i : Int) < (j : Int)
  all_goals
    simp only [hij, if_true, if_false] at hft
    go_enter Try.func14, Try.ntmps14
    go_wp2
    have hbox := Blk.new w #[.int .i64 l.f, .int .i64 l.t, .slice A bn k] 57
    have hmW : Mod (fun _ => False) w (w.alloc (.cells #[.int .i64 l.f, .int .i64 l.t, .slice A bn k] 57)) := (Mod.refl _ _).alloc _
    generalize w.alloc (.cells #[.int .i64 l.f, .int .i64 l.t, .slice A bn k] 57) = W at *
    have hmD : Mod (fun _ => False) w W.drew := hmW.drew
    have hsz := hmW.size
    have hga2 : ¬ W.heap.size = a := by omega
    generalize hh7 : w.heap.size = h7 at *
    have c0W := cell_mod hmW c0 (fun h => h)
    have c0A := fun o => cell_mod (hmD.alloc o) c0 (fun h => h)
    have b0 : W.cell? ⟨h7, 0, none⟩ = some (.int .i64 l.f) := hbox.cell 0
    have b1 : W.cell? ⟨h7, 1, none⟩ = some (.int .i64 l.t) := hbox.cell 1
    have b2 : W.cell? ⟨h7, 2, none⟩ = some (.slice A bn k) := hbox.cell 2
    clear c0 c1 f0 f1 d0 d1 d2
    have hS0 : W.drew.cell? ⟨g, 0, none⟩ = some (.slice (some ⟨a, 0, none⟩) (m + 1) cap) ∧ W.drew.cell? ⟨h7, 0, none⟩ = some (.int .i64 l.f) ∧ W.drew.cell? ⟨h7, 1, none⟩ = some (.int .i64 l.t) ∧ W.drew.cell? ⟨h7, 2, none⟩ = some (.slice A bn k) := ⟨c0W, b0, b1, b2⟩
    go_region_held3 (fun w' => w'.cell? ⟨g, 0, none⟩ = some (.slice (some ⟨a, 0, none⟩) (m + 1) cap) ∧ w'.cell? ⟨h7, 0, none⟩ = some (.int .i64 l.f) ∧ w'.cell? ⟨h7, 1, none⟩ = some (.int .i64 l.t) ∧ w'.cell? ⟨h7, 2, none⟩ = some (.slice A bn k))
      (first | assumption | exact keep4 hga hga' (by assumption) (Mod.alloc (Mod.refl _ _) _) | exact keep4 hga hga' (by assumption) hi5.2.1 | exact keep4 hga hga' (by assumption) hd9.2.1 | exact keep4s hg7 (by assumption))
      (first
      | (go_at_call 26; refine (Hdel.out _ hmD).mono ?_; rintro e w9 ⟨rfl, hd9⟩; have hm9 := hmD; have hbox9 := box_after hd9 hbox hga'; have hvb9 : h7 ≤ w9.heap.size := by (rw [← hh7]; exact del_size hmD hd9))
      | (go_at_call 26; refine (Hdel.out _ (hmD.alloc _)).mono ?_; rintro e w9 ⟨rfl, hd9⟩; have hm9 := hmD.alloc (.cells #[.int .i64 l.f, .int .i64 l.t, .slice A bn k] 57); have hbox9 := box_after hd9 (Blk.new _ _ _) hga2; have hvb9 := hsz)
      | (go_at_call 25; refine (Hins.out _ _ _ _ hm9 hd9 ((Mod.refl _ w9).alloc _) _ hvb9 (Blk.new _ _ _)).mono ?_; rintro e w5 ⟨rfl, hi5⟩; obtain ⟨c5, f5, hk5⟩ := Hput.out _ _ _ _ _ _ hm9 hd9 ((Mod.refl _ w9).alloc _) hi5)
      | (go_at_call 25; refine (Hins.out _ _ _ _ hm9 hd9 (Mod.refl _ w9) _ hsz hbox9).mono ?_; rintro e w5 ⟨rfl, hi5⟩; obtain ⟨c5, f5, hk5⟩ := Hput.out _ _ _ _ _ _ hm9 hd9 (Mod.refl _ w9) hi5))
    all_goals (have Hk5 := Lib.hid hk5; clear hk5; go_wp2; go_ret; exact ⟨rfl, Hk5.out⟩)

theorem move_any (B g s : Nat) (v : Value) (L : List Let) (w : World) (h : NetAt B w g v L s) (i j : Int) :
    Calls Try.prog 14 #[.pointer (some ⟨g, 0, none⟩), .int .i64 i, .int .i64 j] w fun e w' => e = .returned (.bool (moveOk L i j)) ∧ Kept B g v (moved L i j) s w w' := by
  by_cases hok : moveOk L i j = true
  · have h1 : 0 ≤ i ∧ i < L.length ∧ 0 ≤ j ∧ j < L.length := of_decide_eq_true hok
    obtain ⟨h1, h2, h3, h4⟩ := h1
    obtain ⟨i, rfl⟩ := Int.eq_ofNat_of_zero_le h1
    obtain ⟨j, rfl⟩ := Int.eq_ofNat_of_zero_le h3
    refine (move_yes B g s v L w h i j (by omega) (by omega)).mono ?_
    rintro e w' ⟨rfl, hk⟩
    rw [hok]
    unfold moved
    rw [hok]
    exact ⟨rfl, hk⟩
  · have hok' : moveOk L i j = false := by simpa using hok
    refine (move_no B g s v L w h i j hok').mono ?_
    rintro e w' ⟨rfl, rfl⟩
    rw [hok']
    unfold moved
    rw [hok']
    exact ⟨rfl, Kept.same h (Mod.refl _ _)⟩
end Go.Proofs.Ytjhlabpnjkepbaa
