/-
  Set.
-/
import Derived.Test.YtpbdcjgconopnaaAh
namespace Go.Proofs.Ytpbdcjgconopnaa
open Go.RowKit Mem
set_option linter.unusedVariables false

/-- May the grant be given? -/
def goodG (l : List Gr) (g : Gr) : Prop := rightB l = true ∧ fineB g = true ∧ 0 ≤ g.r ∧ g.r ≤ 3
/-- What Set answers. -/
def SetOf (l : List Gr) (g : Gr) (c : Int) (m : List Gr) : Prop :=
  (¬ goodG l g ∧ c = 1 ∧ m = []) ∨ (goodG l g ∧ ∃ i, BsAt l g i ∧
    ((foundB l g i = true ∧ g.r = 0 ∧ c = 0 ∧ m = l.take i ++ l.drop (i + 1)) ∨
     (foundB l g i = true ∧ g.r ≠ 0 ∧ c = 0 ∧ m = l.take i ++ [g] ++ l.drop (i + 1)) ∨
     (foundB l g i = false ∧ g.r = 0 ∧ c = 0 ∧ m = l) ∨
     (foundB l g i = false ∧ g.r ≠ 0 ∧ l.length = 64 ∧ c = 11 ∧ m = []) ∨
     (foundB l g i = false ∧ g.r ≠ 0 ∧ l.length < 64 ∧ c = 0 ∧ m = l.take i ++ [g] ++ l.drop i)))
def SetPost (l : List Gr) (g : Gr) (w : World) (e : Ending) (w' : World) : Prop :=
  ∃ v c m, e = .returned (.tuple #[v, .int .i64 c]) ∧ SetOf l g c m ∧ Gs w' v m ∧ Mod (fun _ => False) w w'
theorem set_bad {l : List Gr} {g : Gr} {w w' : World} (h : ¬ goodG l g) (hm : Mod (fun _ => False) w w') : SetPost l g w (.returned (.tuple #[.slice none 0 0, .int .i64 1])) w' :=
  ⟨_, _, [], rfl, .inl ⟨h, rfl, rfl⟩, .inl ⟨rfl, rfl⟩, hm⟩
theorem clone_b (v : Value) (l : List Gr) (w : World) (h : Gs w v l) (hl : l.length ≤ 1000) : Calls Try.prog 22 #[v] w (ClonedG l w) := clone_any v l w h hl
theorem bsf_g (v : Value) (l : List Gr) (t u : Bs) (r : Int) (w : World) (h : Gs w v l) (hl : l.length ≤ 1000000) : Calls Try.prog 23 #[v, .agg #[.string (sv t), .string (sv u), .int .i64 r], .func (.func 24) #[] #[]] w (Searched l ⟨t, u, r⟩ w) := bsf_any v l ⟨t, u, r⟩ w h hl

set_option maxRecDepth 100000 in
set_option maxHeartbeats 6400000 in
theorem set_any (v : Value) (l : List Gr) (g : Gr) (w : World) (h : Gs w v l) (hg : Goks l) (hk : Gok g) : Calls Try.prog 8 #[v, gval g] w (SetPost l g w) := by
  have hbox := Blk.new w #[.string (sv g.t), .string (sv g.w), .int .i64 g.r] 24
  have hal : Mod (fun _ => False) w (w.alloc (.cells #[.string (sv g.t), .string (sv g.w), .int .i64 g.r] 24)) := (Mod.refl _ _).alloc _
  have HG := Lib.hid (h.new hal)
  have HK := Lib.hid hg
  have HB := Lib.hid hbox
  have HL := Lib.hid hal
  have HF : Hid (∀ b, fineB g = b → ∀ w, Calls Try.prog 21 #[.agg #[.string (sv g.t), .string (sv g.w), .int .i64 g.r]] w fun e w' => e = .returned (.bool b) ∧ Mod (fun _ => False) w w') := Lib.hid (fun b hb w => fine_b hk hb w)
  clear h hg hbox hal hk
  unfold gval
  go_enter Try.func8, Try.ntmps8
  go_wp2_with (fail)
  obtain ⟨q, hq⟩ : ∃ q, w.heap.size = q := ⟨_, rfl⟩
  rw [hq] at HB ⊢
  clear hq
  generalize w.alloc (.cells #[.string (sv g.t), .string (sv g.w), .int .i64 g.r] 24) = W at *
  have HR := Lib.hid (right_b W HG.out HK.out (b := rightB l) rfl)
  refine HR.out.mono ?_
  rintro e w0 ⟨rfl, hm0⟩
  have HM0 : Hid (Mod (fun _ => False) W w0) := Lib.hid hm0
  have hb0 := HB.out.mod hm0 (fun h => h)
  have b0 : w0.cell? ⟨q, 0, none⟩ = some (.string (sv g.t)) := hb0.cell 0
  have b1 : w0.cell? ⟨q, 1, none⟩ = some (.string (sv g.w)) := hb0.cell 1
  have b2 : w0.cell? ⟨q, 2, none⟩ = some (.int .i64 g.r) := hb0.cell 2
  have HB0 := Lib.hid hb0
  clear hm0 hb0 HR
  rcases hr : rightB l with _ | _
  · have Hbad : Hid (¬ goodG l g) := Lib.hid (fun h => by have := h.1; rw [hr] at this; exact absurd this (by decide))
    have Hfin : Hid (Mod (fun _ => False) w w0) := Lib.hid (HL.out.trans HM0.out (fun _ h => h.elim))
    clear hr
    go_wp2
    go_ret2
    exact set_bad Hbad.out Hfin.out
  have Hrt := Lib.hid hr
  clear hr
  go_wp2_with (fail)
  refine (HF.out _ rfl w0).mono ?_
  rintro e w1 ⟨rfl, hm1⟩
  have HW1 : Hid (Mod (fun _ => False) W w1) := Lib.hid (HM0.out.trans hm1 (fun _ h => h.elim))
  have hb1 := HB0.out.mod hm1 (fun h => h)
  have c2 : w1.cell? ⟨q, 2, none⟩ = some (.int .i64 g.r) := hb1.cell 2
  have c0 : w1.cell? ⟨q, 0, none⟩ = some (.string (sv g.t)) := hb1.cell 0
  have c1 : w1.cell? ⟨q, 1, none⟩ = some (.string (sv g.w)) := hb1.cell 1
  have Hfin : Hid (Mod (fun _ => False) w w1) := Lib.hid (HL.out.trans HW1.out (fun _ h => h.elim))
  clear b0 b1 b2 hm1 hb1 HB0 HM0 HF
  rcases hf : fineB g with _ | _
  · have Hbad : Hid (¬ goodG l g) := Lib.hid (fun h => by have := h.2.1; rw [hf] at this; exact absurd this (by decide))
    clear hf
    go_wp2
    go_ret2
    exact set_bad Hbad.out Hfin.out
  have Hft := Lib.hid hf
  clear hf
  by_cases hlo : g.r < 0
  · have Hbad : Hid (¬ goodG l g) := Lib.hid (fun h => by have := h.2.2.1; omega)
    have t1 : decide (g.r < 0) = true := decide_eq_true hlo
    go_wp2
    go_ret2
    exact set_bad Hbad.out Hfin.out
  by_cases hhi : 3 < g.r
  · have Hbad : Hid (¬ goodG l g) := Lib.hid (fun h => by have := h.2.2.2; omega)
    have t1 : decide (g.r < 0) = false := decide_eq_false hlo
    have t2 : decide (3 < g.r) = true := decide_eq_true hhi
    go_wp2
    go_ret2
    exact set_bad Hbad.out Hfin.out
  have Hgood : Hid (goodG l g) := Lib.hid ⟨Hrt.out, Hft.out, by omega, by omega⟩
  have t1 : decide (g.r < 0) = false := decide_eq_false hlo
  have t2 : decide (3 < g.r) = false := decide_eq_false hhi
  clear Hfin
  have hlen : l.length ≤ 64 := (right_ok Hrt.out).1
  go_wp2_with (fail)
  refine (clone_b v l w1 (HG.out.new HW1.out) (by omega)).mono ?_
  rintro e w2 ⟨v2, rfl, ho2, hm2⟩
  have HO2 := Lib.hid ho2
  have HM2 := Lib.hid hm2
  have hb2 := (HB.out.mod HW1.out (fun h => h)).mod hm2 (fun h => h)
  have d0 : w2.cell? ⟨q, 0, none⟩ = some (.string (sv g.t)) := hb2.cell 0
  have d1 : w2.cell? ⟨q, 1, none⟩ = some (.string (sv g.w)) := hb2.cell 1
  have d2 : w2.cell? ⟨q, 2, none⟩ = some (.int .i64 g.r) := hb2.cell 2
  have HB2 := Lib.hid hb2
  clear hb2 ho2 hm2
  go_wp2_with (fail)
  refine (bsf_g v2 l g.t g.w g.r w2 (own_gs HO2.out) (by omega)).mono ?_
  rintro e w3 ⟨i, hbs, rfl, hm3⟩
  have HBs := Lib.hid hbs
  have HM3 := Lib.hid hm3
  have hb3 := HB2.out.mod hm3 (fun h => h)
  have HB3 := Lib.hid hb3
  have f0 : w3.cell? ⟨q, 0, none⟩ = some (.string (sv g.t)) := hb3.cell 0
  have f1 : w3.cell? ⟨q, 1, none⟩ = some (.string (sv g.w)) := hb3.cell 1
  have f2 : w3.cell? ⟨q, 2, none⟩ = some (.int .i64 g.r) := hb3.cell 2
  have HM : Hid (Mod (fun _ => False) w w3) := Lib.hid (((HL.out.trans HW1.out (fun _ h => h.elim)).trans HM2.out (fun _ h => h.elim)).trans hm3 (fun _ h => h.elim))
  have HZ : Hid (w.heap.size ≤ w1.heap.size) := Lib.hid (HL.out.trans HW1.out (fun _ h => h.elim)).size
  have ho3 := own_mod HO2.out HM3.out (fun _ _ h => h)
  clear d0 d1 d2 hb3 hm3 hbs c0 c1 c2 t1 t2
  have HO3 := Lib.hid ho3
  clear ho3
  rcases hfo : foundB l ⟨g.t, g.w, g.r⟩ i with _ | _
  · have Hfo := Lib.hid hfo
    clear hfo
    by_cases hr0 : g.r = 0
    · have t3 : (g.r == 0) = true := by rw [hr0]; rfl
      have Hfin : Hid (SetPost l g w (.returned (.tuple #[v2, .int .i64 0])) w3) := Lib.hid ⟨v2, 0, l, rfl, .inr ⟨Hgood.out, i, HBs.out, .inr (.inr (.inl ⟨Hfo.out, hr0, rfl, rfl⟩))⟩, own_gs HO3.out, HM.out⟩
      go_wp2
      go_ret2
      exact Hfin.out
    · have t3 : (g.r == 0) = false := by rw [beq_eq_false_iff_ne]; exact hr0
      have hil : i ≤ l.length := HBs.out.1
      by_cases h64 : l.length = 64
      · have Hfin : Hid (SetPost l g w (.returned (.tuple #[.slice none 0 0, .int .i64 11])) w3) := Lib.hid ⟨_, 11, [], rfl, .inr ⟨Hgood.out, i, HBs.out, .inr (.inr (.inr (.inl ⟨Hfo.out, hr0, h64, rfl, rfl⟩)))⟩, .inl ⟨rfl, rfl⟩, HM.out⟩
        have h64' : (l.length : Int) = 64 := by omega
        rcases own_cases HO3.out with ⟨rfl, hn, _⟩ | ⟨a, cap, cur, rfl, ha, hBk, hn, hc, hs, hx⟩
        · omega
        clear hBk hx
        go_wp2
        go_ret2
        exact Hfin.out
      · have h64' : ¬ ((l.length : Int) = 64) := by omega
        have hlt : l.length < 64 := by omega
        have hV := Blk.new w3 #[.string (sv g.t), .string (sv g.w), .int .i64 g.r] 24
        have hal4 : Mod (fun _ => False) w3 (w3.alloc (.cells #[.string (sv g.t), .string (sv g.w), .int .i64 g.r] 24)) := (Mod.refl _ _).alloc _
        have HV := Lib.hid hV
        have HA4 := Lib.hid hal4
        have HO4 := Lib.hid (own_mod HO3.out hal4 (fun _ _ h => h))
        clear hV hal4
        have hone : ∀ u ∈ (#[Value.string (sv g.t), .string (sv g.w), .int .i64 g.r] : Array Value).toList, u.oneCell' = true := fun u hu => gsc_one [g] u (by simpa [gsc, gcells] using hu)
        have Hone := Lib.hid hone
        have HB4 : Hid (w1.heap.size ≤ (w3.alloc (.cells #[.string (sv g.t), .string (sv g.w), .int .i64 g.r] 24)).heap.size) := Lib.hid (Nat.le_trans HM2.out.size (Nat.le_trans HM3.out.size HA4.out.size))
        clear hone
        have Hout : Hid (∀ v5 w5, w5.ownsRow w1.heap.size 24 3 v5 (l.length + 1) (gsc (l.take i ++ [g] ++ l.drop i)) → Mod (fun _ => False) w w5 → SetPost l g w (.returned (.tuple #[v5, .int .i64 0])) w5) := Lib.hid (fun v5 w5 ho hm => ⟨v5, 0, _, rfl, .inr ⟨Hgood.out, i, HBs.out, .inr (.inr (.inr (.inr ⟨Hfo.out, hr0, hlt, rfl, rfl⟩)))⟩, own_gs (by
          have he : (l.take i ++ [g] ++ l.drop i).length = l.length + 1 := by simp; omega
          rw [he]; exact ho), hm⟩)
        have Heq : Hid ((gsc l).take (i * 3) ++ #[Value.string (sv g.t), .string (sv g.w), .int .i64 g.r].toList ++ (gsc l).drop (i * 3) = gsc (l.take i ++ [g] ++ l.drop i)) := Lib.hid (by
          rw [gsc_append, gsc_append, gsc_take, gsc_drop]; rfl)
        rcases own_cases HO3.out with ⟨rfl, hn, _⟩ | ⟨a, cap, cur, rfl, ha, hBk, hn, hc, hs, hx⟩
        · obtain rfl : l = [] := List.eq_nil_of_length_eq_zero hn
          obtain rfl : i = 0 := by simpa using hil
          clear hn
          go_wp2_with (fail)
          obtain ⟨vb, hvb⟩ : ∃ vb, w3.heap.size = vb := ⟨_, rfl⟩
          rw [hvb] at HV ⊢
          generalize w3.alloc (.cells #[.string (sv g.t), .string (sv g.w), .int .i64 g.r] 24) = w4 at *
          refine (insert_none w1.heap.size vb _ w4 HV.out rfl Hone.out HB4.out).mono ?_
          rintro e w5 ⟨A, c, rfl, ho5, hm5⟩
          have Hfin := Lib.hid (Hout.out _ w5 (by rw [← Heq.out]; simpa [gsc] using ho5) ((HM.out.trans HA4.out (fun _ h => h.elim)).trans hm5 (fun _ h => h.elim)))
          clear ho5 hm5
          go_wp2
          go_ret2
          exact Hfin.out
        · have HBk := Lib.hid (hBk.mod HA4.out (fun h => h))
          have Hab := Lib.hid hBk.lt
          have Hx := Lib.hid hx
          clear hBk hx
          go_wp2_with (fail)
          obtain ⟨vb, hvb⟩ : ∃ vb, w3.heap.size = vb := ⟨_, rfl⟩
          rw [hvb] at HV Hab ⊢
          generalize w3.alloc (.cells #[.string (sv g.t), .string (sv g.w), .int .i64 g.r] 24) = w4 at *
          refine (insert_any w1.heap.size a i l.length cap vb cur _ _ w4 HBk.out ha hs Hx.out hil hn hc (by omega) (gsc_one l) HV.out rfl Hone.out (by have := Hab.out; omega) HB4.out).mono ?_
          rintro e w5 ⟨A, c, rfl, ho5, hm5⟩
          have Hfin := Lib.hid (Hout.out _ w5 (by rw [← Heq.out]; exact ho5) ((HM.out.trans HA4.out (fun _ h => h.elim)).trans hm5 (fun b hb => .inr (by have := HZ.out; omega))))
          clear ho5 hm5
          go_wp2
          go_ret2
          exact Hfin.out
  · have Hfo := Lib.hid hfo
    have hi : i < l.length := (found_same hfo).1
    clear hfo
    rcases own_cases HO3.out with ⟨rfl, hn, _⟩ | ⟨a, cap, cur, rfl, ha, hBk, hn, hc, hs, hx⟩
    · omega
    have HBk := Lib.hid hBk
    have Hx := Lib.hid hx
    clear hBk hx
    by_cases hr0 : g.r = 0
    · have t3 : (g.r == 0) = true := by rw [hr0]; rfl
      have hw1 : IntKind.i64.wrap ((i : Int) + 1) = (i : Int) + 1 := by rw [IntKind.wrap_i64]; omega
      go_wp2_with (fail)
      refine (delete_any a i l.length cap cur _ w3 HBk.out hs Hx.out hi hn hc (gsc_one l)).mono ?_
      rintro e w5 ⟨rfl, hm5, hs5, cur5, hB5, hsz5, hx5⟩
      have Hfin : Hid (SetPost l g w (.returned (.tuple #[.slice (some ⟨a, 0, none⟩) (l.length - 1) cap, .int .i64 0])) w5) := Lib.hid ⟨_, 0, l.take i ++ l.drop (i + 1), rfl, .inr ⟨Hgood.out, i, HBs.out, .inl ⟨Hfo.out, hr0, rfl, rfl⟩⟩, own_gs (base := w1.heap.size) (by
        have he : (l.take i ++ l.drop (i + 1)).length = l.length - 1 := by simp; omega
        rw [he]
        refine own_of hB5 ha (by omega) hc hsz5 ?_
        rw [hx5, gsc_append, gsc_take, gsc_drop]), HM.out.trans hm5 (fun b hb => .inr (by have := HZ.out; omega))⟩
      clear hm5 hs5 hB5 hsz5 hx5
      go_wp2
      go_ret2
      exact Hfin.out
    · have t3 : (g.r == 0) = false := by rw [beq_eq_false_iff_ne]; exact hr0
      have hq1 : (i : Int) < (l.length : Int) := by omega
      have hb5 := HBk.out
      have k0 : ∃ u, w3.cell? ⟨a, i * 3, none⟩ = some u := ⟨cur[i * 3]'(by omega), by rw [hb5.cell, Array.getElem?_eq_getElem (by omega)]⟩
      obtain ⟨u0, k0⟩ := k0
      have z0 : w3.frozen? ⟨a, i * 3, none⟩ = false := hb5.frozen _
      have hb6 := hb5.set (i * 3) (.string (sv g.t))
      have k1 : ∃ u, (w3.setCell ⟨a, i * 3, none⟩ (.string (sv g.t))).cell? ⟨a, i * 3 + 1, none⟩ = some u := ⟨_, by rw [hb6.cell, Array.getElem?_eq_getElem (by simp; omega)]⟩
      obtain ⟨u1, k1⟩ := k1
      have z1 : (w3.setCell ⟨a, i * 3, none⟩ (.string (sv g.t))).frozen? ⟨a, i * 3 + 1, none⟩ = false := hb6.frozen _
      have hb7 := hb6.set (i * 3 + 1) (.string (sv g.w))
      have k2 : ∃ u, ((w3.setCell ⟨a, i * 3, none⟩ (.string (sv g.t))).setCell ⟨a, i * 3 + 1, none⟩ (.string (sv g.w))).cell? ⟨a, i * 3 + 2, none⟩ = some u := ⟨_, by rw [hb7.cell, Array.getElem?_eq_getElem (by simp; omega)]⟩
      obtain ⟨u2, k2⟩ := k2
      have z2 : ((w3.setCell ⟨a, i * 3, none⟩ (.string (sv g.t))).setCell ⟨a, i * 3 + 1, none⟩ (.string (sv g.w))).frozen? ⟨a, i * 3 + 2, none⟩ = false := hb7.frozen _
      have hset : w3.setCells a (i * 3) [.string (sv g.t), .string (sv g.w), .int .i64 g.r] = ((w3.setCell ⟨a, i * 3, none⟩ (.string (sv g.t))).setCell ⟨a, i * 3 + 1, none⟩ (.string (sv g.w))).setCell ⟨a, i * 3 + 2, none⟩ (.int .i64 g.r) := rfl
      have hb8 := Blk.setCells (w := w3) ([.string (sv g.t), .string (sv g.w), .int .i64 g.r] : List Value) (i * 3) hb5 (by show i * 3 + 3 ≤ _; omega)
      have hm8 : Mod (· = a) w3 (w3.setCells a (i * 3) [.string (sv g.t), .string (sv g.w), .int .i64 g.r]) := Mod.setCells _ _ (Mod.refl _ _) (.inl rfl)
      rw [hset] at hb8 hm8
      have Hfin : Hid (SetPost l g w (.returned (.tuple #[.slice (some ⟨a, 0, none⟩) l.length cap, .int .i64 0])) (((w3.setCell ⟨a, i * 3, none⟩ (.string (sv g.t))).setCell ⟨a, i * 3 + 1, none⟩ (.string (sv g.w))).setCell ⟨a, i * 3 + 2, none⟩ (.int .i64 g.r))) := Lib.hid ⟨_, 0, l.take i ++ [g] ++ l.drop (i + 1), rfl, .inr ⟨Hgood.out, i, HBs.out, .inr (.inl ⟨Hfo.out, hr0, rfl, rfl⟩)⟩, own_gs (base := w1.heap.size) (by
        have he : (l.take i ++ [g] ++ l.drop (i + 1)).length = l.length := by simp; omega
        rw [he]
        refine own_of hb8 ha hn hc (by rw [spl_size _ _ _ (by show i * 3 + 3 ≤ _; omega), hs]) ?_
        have hx1 : cur.toList.take (i * 3) = gsc (l.take i) := by rw [← gsc_take, ← Hx.out, List.take_take]; congr 1; omega
        have hx2 : (cur.toList.drop (i * 3 + 3)).take (l.length * 3 - (i * 3 + 3)) = gsc (l.drop (i + 1)) := by
          rw [← gsc_drop, ← Hx.out, List.drop_take]
          congr 2 <;> omega
        rw [spl_list, hx1, List.take_append, gsc_append, gsc_append, List.take_of_length_le (by simp [gsc_len]; omega), ← hx2]
        congr 2
        simp [gsc_len]; omega), HM.out.trans hm8 (fun b hb => .inr (by have := HZ.out; omega))⟩
      clear hb5 hb6 hb7 hb8 hm8 hset
      go_wp2
      go_ret2
      exact Hfin.out
end Go.Proofs.Ytpbdcjgconopnaa
