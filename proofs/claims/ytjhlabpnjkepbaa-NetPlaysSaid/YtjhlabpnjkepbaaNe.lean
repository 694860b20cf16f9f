/-
  Send.
-/
import Derived.Test.YtjhlabpnjkepbaaNd
namespace Go.Proofs.Ytjhlabpnjkepbaa
open Go.RowKit Mem
set_option linter.unusedVariables false

theorem kept_same {B g s : Nat} {v : Value} {L : List Let} {w0 w : World} (h0 : NetAt B w0 g v L s) (hm0 : Mod (fun _ => False) w0 w) : KeptR (fun i => w0.heap.size ≤ i ∧ i < w.heap.size) B g v L s w w :=
  ⟨v, fun w'' hm'' => h0.new ((hm0.mono (T := fun i => w0.heap.size ≤ i ∧ i < w.heap.size) (fun _ h => h.elim)).trans hm'' (fun i hi => .inl hi)) (fun i hi => hi.1), fun a ha => .inl ha, Mod.refl _ _⟩

set_option maxHeartbeats 1600000 in
theorem send_no (B g s : Nat) (v : Value) (L : List Let) (w0 w : World) (h0 : NetAt B w0 g v L s) (hm0 : Mod (fun _ => False) w0 w) (f t : Int) (bv : Value) (hf : -9223372036854775808 ≤ f) (hf' : f ≤ 9223372036854775807) (ht : -9223372036854775808 ≤ t) (ht' : t ≤ 9223372036854775807)
    (hno : ¬ (0 ≤ f ∧ 0 ≤ t ∧ f ≤ 63 ∧ t ≤ 63 ∧ L.length < 200)) : Calls Try.prog 12 #[.pointer (some ⟨g, 0, none⟩), .int .i64 f, .int .i64 t, bv] w (Sent B g s v L w0 w) := by
  have hfin : Sent B g s v L w0 w (.returned (.tuple #[])) w := ⟨rfl, kept_same h0 hm0⟩
  have Hfin := Lib.hid hfin
  have hw : NetAt B w g v L s := h0.new hm0 (fun _ h => h.elim)
  obtain ⟨A, c, rfl⟩ := hw.slice
  obtain ⟨c0, c1, f0, f1⟩ := hw.cells
  have hn := or_neg f t hf hf' ht ht'
  clear hfin hw h0 hm0
  by_cases hneg : f < 0 ∨ t < 0
  · have hd : decide (Go.bits .or .i64 f t < 0) = true := by simp; omega
    have hd2 : decide (0 ≤ Go.bits .or .i64 f t) = false := by simp; omega
    clear hn hneg hno
    go_enter Try.func12, Try.ntmps12
    go_wp2
    go_end0
    exact Hfin.out
  · have hd : decide (Go.bits .or .i64 f t < 0) = false := by simp; omega
    have hd2 : decide (0 ≤ Go.bits .or .i64 f t) = true := by simp; omega
    clear hn
    by_cases hmx : (if f < t then t else f) < 64
    · have hl : ¬ ((L.length : Int) < 200) := by intro h; apply hno; split at hmx <;> omega
      clear hno hneg
      by_cases hft : f < t
      all_goals
        simp only [hft, if_true, if_false] at hmx
        go_enter Try.func12, Try.ntmps12
        go_wp2
        go_end0
        exact Hfin.out
    · clear hno hneg
      by_cases hft : f < t
      all_goals
        simp only [hft, if_true, if_false] at hmx
        go_enter Try.func12, Try.ntmps12
        go_wp2
        go_end0
        exact Hfin.out

set_option maxRecDepth 100000 in
set_option maxHeartbeats 3200000 in
theorem send_yes (B g s : Nat) (v : Value) (L : List Let) (w0 w : World) (h0 : NetAt B w0 g v L s) (hm0 : Mod (fun _ => False) w0 w) (f t : Int) (bv : Value) (b : List UInt8) (hb : Rd w bv b) (hbl : b.length ≤ 1000000)
    (h1 : 0 ≤ f) (h2 : 0 ≤ t) (h3 : f ≤ 63) (h4 : t ≤ 63) (hL : L.length < 200) : Calls Try.prog 12 #[.pointer (some ⟨g, 0, none⟩), .int .i64 f, .int .i64 t, bv] w (Sent B g s v (L ++ [⟨f, t, b⟩]) w0 w) := by
  obtain ⟨xs, ho, hl⟩ := h0.own
  have hw : NetAt B w g v L s := h0.new hm0 (fun _ h => h.elim)
  obtain ⟨A, c, hAc⟩ := hw.slice
  have hBh : B ≤ w0.heap.size := by have := h0.blk.lt; have := h0.base; omega
  have hput := fun sb bv1 w1 hm1 hby hV => send_put (g := g) (sb := sb) (bv := bv1) (w := w) (w1 := w1) (f := f) (t := t) (b := b) h0 hm0 ho hl hL hBh hm1 hby hV
  obtain ⟨c0, c1, f0, f1⟩ := hw.cells
  have hn := or_neg f t (by omega) (by omega) (by omega) (by omega)
  have hd : decide (Go.bits .or .i64 f t < 0) = false := by simp; omega
  have hd2 : decide (0 ≤ Go.bits .or .i64 f t) = true := by simp; omega
  subst hAc
  have Hput := Lib.hid hput
  have Hb := Lib.hid hb
  clear hn hw hput ho hl hb h0 hm0 hBh
  by_cases hft : f < t
  all_goals
    go_enter Try.func12, Try.ntmps12
    go_wp2
    go_region_law (first
      | (obtain ⟨v8, w8, hr8, hc8, hf8, hk8, A8, k8, rfl⟩ := Hput.out _ _ _ ((hm9.undrew).alloc _) (own_mod hby9 ((Mod.refl (fun _ => False) _).alloc _) (fun _ _ h => h)) (Blk.new _ _ _)
         refine step_append_run rfl _ _ 50 50 rfl _ _ (by simp [Act.eval]) (by simp [Act.eval]) hr8 ?_)
      | (go_simp
         refine (clone_rd _ _ b (Hb.out.mod (Mod.drew (Mod.refl (fun _ => False) w)) (fun _ _ h => h)) hbl).mono ?_
         rintro e w9 ⟨v9, rfl, hby9, hm9⟩
         obtain ⟨A9, k9, rfl⟩ := hby9.form
         have c9 := cell_mod hm9 c0 (fun h => h)
         have c9a := fun o => cell_mod ((Mod.refl (fun _ => False) w9).alloc o) c9 (fun h => h)
         dsimp only))
    all_goals (go_wp2; go_end0; exact ⟨rfl, hk8⟩)

theorem send_any (B g s : Nat) (v : Value) (L : List Let) (w0 w : World) (h0 : NetAt B w0 g v L s) (hm0 : Mod (fun _ => False) w0 w) (f t : Int) (bv : Value) (b : List UInt8) (hb : Rd w bv b) (hbl : b.length ≤ 1000000)
    (hf : -9223372036854775808 ≤ f) (hf' : f ≤ 9223372036854775807) (ht : -9223372036854775808 ≤ t) (ht' : t ≤ 9223372036854775807) : Calls Try.prog 12 #[.pointer (some ⟨g, 0, none⟩), .int .i64 f, .int .i64 t, bv] w (Sent B g s v (sent L f t b) w0 w) := by
  unfold sent
  split
  · rename_i h
    obtain ⟨h1, h2, h3, h4, h5⟩ := h
    exact send_yes B g s v L w0 w h0 hm0 f t bv b hb hbl h1 h2 h3 h4 h5
  · rename_i h
    exact send_no B g s v L w0 w h0 hm0 f t bv hf hf' ht ht' h
end Go.Proofs.Ytjhlabpnjkepbaa
