/-
  The library's search, at grants.
-/
import Derived.Test.YtpbdcjgconopnaaAc
namespace Go.Proofs.Ytpbdcjgconopnaa
open Go.RowKit Mem
set_option linter.unusedVariables false

/-- Where the search ends. -/
def BsAt (l : List Gr) (g : Gr) (i : Nat) : Prop := i ≤ l.length ∧ (0 < i → cmpG l[i-1]! g < 0) ∧ (i < l.length → 0 ≤ cmpG l[i]! g)
def foundB (l : List Gr) (g : Gr) (i : Nat) : Bool := decide (i < l.length) && decide (cmpG l[i]! g = 0)
/-- What the search gives. -/
def Searched (l : List Gr) (g : Gr) (w : World) (e : Ending) (w' : World) : Prop := ∃ i : Nat, BsAt l g i ∧ e = .returned (.tuple #[.int .i64 (i : Int), .bool (foundB l g i)]) ∧ Mod (fun _ => False) w w'

set_option maxRecDepth 100000 in
set_option maxHeartbeats 3200000 in
theorem bsf_any (v : Value) (l : List Gr) (g : Gr) (w : World) (h : Gs w v l) (hl : l.length ≤ 1000000) : Calls Try.prog 23 #[v, gval g, .func (.func 24) #[] #[]] w (Searched l g w) := by
  obtain ⟨A, c, rfl, hlc, hcm, hA⟩ := h.form
  unfold maxLen at hcm
  have HA := Lib.hid hA
  have HG := Lib.hid h
  have hbox := Blk.new w #[.string (sv g.t), .string (sv g.w), .int .i64 g.r] 24
  have hal : Mod (fun _ => False) w (w.alloc (.cells #[.string (sv g.t), .string (sv g.w), .int .i64 g.r] 24)) := (Mod.refl _ _).alloc _
  have HB := Lib.hid hbox
  have HL := Lib.hid hal
  clear hA h hbox hal
  unfold gval
  go_enter Try.func23, Try.ntmps23
  go_wp2
  obtain ⟨q, hq⟩ : ∃ q, w.heap.size = q := ⟨_, rfl⟩
  rw [hq] at HB ⊢
  clear hq
  generalize w.alloc (.cells #[.string (sv g.t), .string (sv g.w), .int .i64 g.r] 24) = W at *
  have HM0 : Hid (Mod (fun _ => False) W W) := Lib.hid (Mod.refl _ _)
  go_loopw [9, 10] (fun x y wr => ∃ i j : Nat, x = .int .i64 i ∧ y = .int .i64 j ∧ i ≤ j ∧ j ≤ l.length ∧ Hid ((0 < i → cmpG l[i-1]! g < 0) ∧ (j < l.length → 0 ≤ cmpG l[j]! g)) ∧ Hid (Mod (fun _ => False) W wr)) (fun x y _ => (intOf y).toNat - (intOf x).toNat)
  case atStart => exact ⟨0, l.length, rfl, rfl, by omega, by omega, Lib.hid ⟨fun h => by omega, fun h => by omega⟩, HM0⟩
  case round =>
    obtain ⟨i, j, rfl, rfl, hij, hjn, hinv, hM⟩ := hrel
    by_cases hlt : i < j
    · obtain ⟨m, hm⟩ : ∃ m : Nat, m = (i + j) / 2 := ⟨_, rfl⟩
      have hm1 : i ≤ m := by omega
      have hm2 : m < j := by omega
      rcases HA.out with h | ⟨ad, rfl⟩
      · omega
      have hml : m < l.length := by omega
      have hGr := HG.out.new (HL.out.trans hM.out (fun _ h => h.elim))
      obtain ⟨c0, c1, c2⟩ := hGr.at_ m hml
      have hget : l[m]! = l[m] := getElem!_pos l m hml
      rw [← hget] at c0 c1 c2
      have hc := cmp_b l[m]! g
      obtain ⟨f, hf⟩ : ∃ f, l[m]! = f := ⟨_, rfl⟩
      rw [hf] at c0 c1 c2 hc
      have hcv : cmpG l[m]! g = cmpG f g := by rw [hf]
      have Hc := Lib.hid hc
      have HF := Lib.hid hcv
      rw [hm] at c0 c1 c2
      have e0 : ∀ x : After wr, _ := calm_cell c0
      have e1 : ∀ x : After wr, _ := calm_cell c1
      have e2 : ∀ x : After wr, _ := calm_cell c2
      have hb := HB.out.mod hM.out (fun h => h)
      have b0 : ∀ x : After wr, x.w.cell? ⟨q, 0, none⟩ = some (.string (sv g.t)) := calm_cell (hb.cell 0)
      have b1 : ∀ x : After wr, x.w.cell? ⟨q, 1, none⟩ = some (.string (sv g.w)) := calm_cell (hb.cell 1)
      have b2 : ∀ x : After wr, x.w.cell? ⟨q, 2, none⟩ = some (.int .i64 g.r) := calm_cell (hb.cell 2)
      clear hGr hget hc hcv hf hb c0 c1 c2
      generalize cmpG f g = cv at *
      have hq1 : ((i : Int) + (j : Int)) / 2 < (l.length : Int) := by omega
      have hq2 : (0 : Int) ≤ ((i : Int) + (j : Int)) / 2 := by omega
      have hq4 : (((i : Int) + (j : Int)) / 2).toNat = (i + j) / 2 := by omega
      have Hm := Lib.hid hm
      clear hm
      go_wp2
      refine region_calm (by kernel_rfl) (by kernel_rfl) ?_
      repeat (go_big_quiet_step (first | (go_at_call 24; exact calm_call (Hc.out _))))
      refine calm_end (fun w9 hm9 => ?_)
      have Hfin : Hid (Mod (fun _ => False) W w9) := Lib.hid (hM.out.trans hm9 (fun _ h => h.elim))
      clear hm9 e0 e1 e2 b0 b1 b2
      by_cases hcv : cv < 0
      · have Hinv : Hid ((0 < m + 1 → cmpG l[m + 1 - 1]! g < 0) ∧ (j < l.length → 0 ≤ cmpG l[j]! g)) := Lib.hid ⟨fun _ => by rw [Nat.add_sub_cancel, HF.out]; exact hcv, hinv.out.2⟩
        clear hinv
        go_wp2
        go_roundw
        case rel => exact ⟨m + 1, j, by have := Hm.out; congr 1; omega, rfl, by omega, by omega, Hinv, Hfin⟩
        case measure => have := Hm.out; simp [intOf]; omega
      · have Hinv : Hid ((0 < i → cmpG l[i - 1]! g < 0) ∧ (m < l.length → 0 ≤ cmpG l[m]! g)) := Lib.hid ⟨hinv.out.1, fun _ => by rw [HF.out]; omega⟩
        clear hinv
        go_wp2
        go_roundw
        case rel => exact ⟨i, m, rfl, by have := Hm.out; congr 1; omega, by omega, by omega, Hinv, Hfin⟩
        case measure => have := Hm.out; simp [intOf]; omega
    · obtain rfl : i = j := by omega
      have Hbs : Hid (BsAt l g i) := Lib.hid ⟨hjn, hinv.out.1, hinv.out.2⟩
      clear hinv
      by_cases hn : i < l.length
      · rcases HA.out with h | ⟨ad, rfl⟩
        · omega
        have hGr := HG.out.new (HL.out.trans hM.out (fun _ h => h.elim))
        obtain ⟨c0, c1, c2⟩ := hGr.at_ i hn
        have hget : l[i]! = l[i] := getElem!_pos l i hn
        rw [← hget] at c0 c1 c2
        have hc := cmp_b l[i]! g
        have hfo : foundB l g i = decide (cmpG l[i]! g = 0) := by unfold foundB; rw [decide_eq_true hn]; rfl
        obtain ⟨f, hf⟩ : ∃ f, l[i]! = f := ⟨_, rfl⟩
        rw [hf] at c0 c1 c2 hc hfo
        have Hc := Lib.hid hc
        have e0 : ∀ x : After wr, _ := calm_cell c0
        have e1 : ∀ x : After wr, _ := calm_cell c1
        have e2 : ∀ x : After wr, _ := calm_cell c2
        have hb := HB.out.mod hM.out (fun h => h)
        have b0 : ∀ x : After wr, x.w.cell? ⟨q, 0, none⟩ = some (.string (sv g.t)) := calm_cell (hb.cell 0)
        have b1 : ∀ x : After wr, x.w.cell? ⟨q, 1, none⟩ = some (.string (sv g.w)) := calm_cell (hb.cell 1)
        have b2 : ∀ x : After wr, x.w.cell? ⟨q, 2, none⟩ = some (.int .i64 g.r) := calm_cell (hb.cell 2)
        have Hfo := Lib.hid hfo
        clear hGr hget hc hf hb c0 c1 c2 hfo
        generalize cmpG f g = cv at *
        have hq1 : (i : Int) < (l.length : Int) := by omega
        have hq2 : decide ((i : Int) < (l.length : Int)) = true := decide_eq_true hq1
        obtain ⟨bv, hbv⟩ : ∃ bv, (cv == 0) = bv := ⟨_, rfl⟩
        have Hbv : Hid (foundB l g i = bv) := Lib.hid (by rw [Hfo.out, ← hbv]; rw [Bool.eq_iff_iff]; simp)
        go_wp2
        refine region_calm (by kernel_rfl) (by kernel_rfl) ?_
        repeat (go_big_quiet_step (first | (go_at_call 24; exact calm_call (Hc.out _))))
        refine calm_end (fun w9 hm9 => ?_)
        have Hfin : Hid (Mod (fun _ => False) w w9) := Lib.hid ((HL.out.trans hM.out (fun _ h => h.elim)).trans hm9 (fun _ h => h.elim))
        clear hm9 e0 e1 e2 b0 b1 b2
        go_wp2
        go_ret2
        exact ⟨i, Hbs.out, ret_val (by rw [Hbv.out]; rfl), Hfin.out⟩
      · have hq2 : decide ((i : Int) < (l.length : Int)) = false := decide_eq_false (by omega)
        have Hfo : Hid (foundB l g i = false) := Lib.hid (by unfold foundB; rw [decide_eq_false hn]; rfl)
        go_wp2
        refine region_calm (by kernel_rfl) (by kernel_rfl) ?_
        repeat (go_big_quiet_step (fail))
        refine calm_end (fun w9 hm9 => ?_)
        have Hfin : Hid (Mod (fun _ => False) w w9) := Lib.hid ((HL.out.trans hM.out (fun _ h => h.elim)).trans hm9 (fun _ h => h.elim))
        clear hm9
        go_wp2
        go_ret2
        exact ⟨i, Hbs.out, ret_val (by rw [Hfo.out]; rfl), Hfin.out⟩
end Go.Proofs.Ytpbdcjgconopnaa
