/-
  The document's Move.
-/
import Derived.Test.YtjhlabpnjkepbaaRc
namespace Go.Proofs.Ytjhlabpnjkepbaa
open Go.RowKit Mem
set_option linter.unusedVariables false

/-- The rest's first part copied to a new row. -/
def H34 (W : World) (r j c5 : Nat) (R : List Let) : Prop := ∀ X q, Mod (fun _ => False) W X → Blk X q #[] 39 → W.heap.size ≤ q →
  ∃ A8 k8 w8, (Builtin.append_ #[27, 27] 27 #[.slice (some ⟨q, 0, none⟩) 0 0, .slice (some ⟨r, 0, none⟩) j c5]).run Try.prog X = .ok (.slice A8 j k8) w8 ∧ w8.ownsRow W.heap.size 39 3 (.slice A8 j k8) j (rcells (R.take j)) ∧ Mod (fun b => b = q) X w8 ∧ Mod (fun _ => False) W w8
theorem h34 {W : World} {r j m c5 : Nat} {R : List Let} (hrow : ∀ p u, (rcells R)[p]? = some u → W.cell? ⟨r, p, none⟩ = some u) (hR : R.length = m) (hm : m < 200) (hj : j ≤ m) : H34 W r j c5 R := by
  intro X q hm1 hX hq
  have hown0 : X.ownsRow W.heap.size 39 3 (.slice (some ⟨q, 0, none⟩) 0 0) 0 [] := own_of hX hq (Nat.le_refl _) (Nat.zero_le _) rfl rfl
  obtain ⟨A1, k1, w1, hr1, ho1, hm2, hv1, hs1⟩ := app_ref W.heap.size 0 _ [] X hown0 ⟨r, 0, none⟩ j c5 (rcells (R.take j)) (by omega) (by rw [rcells_len, List.length_take]; omega)
    (fun p u hp => by
      rw [Addr.add_lit, Nat.zero_add]
      refine cell_mod hm1 (hrow p u ?_) (fun h => h)
      rw [← rcells_take] at hp
      have := (List.getElem?_eq_some_iff.1 hp).1
      rw [List.getElem?_take_of_lt (by rw [List.length_take] at this; omega)] at hp
      exact hp) (rcells_one _) hm1.size
  rw [Nat.zero_add] at hr1 ho1
  have hm3 : Mod (fun b => b = q) X w1 := hm2.mono (fun b hb => by simpa [Value.ownBlock, eq_comm] using hb)
  exact ⟨A1, k1, w1, hr1, ho1, hm3, hm1.trans hm3 (fun i hi => .inr (by omega))⟩
def H37 (W : World) (j : Nat) (R : List Let) (l : Let) : Prop := ∀ A8 k8 w8, Mod (fun _ => False) W w8 → w8.ownsRow W.heap.size 39 3 (.slice A8 j k8) j (rcells (R.take j)) → ∀ Y sb, Mod (fun _ => False) w8 Y → Blk Y sb #[.int .i64 l.f, .int .i64 l.t, .string ⟨l.b.toArray⟩] 39 →
  ∃ A9 k9 w9, (Builtin.append_ #[27, 27] 27 #[.slice A8 j k8, .slice (some ⟨sb, 0, none⟩) 1 1]).run Try.prog Y = .ok (.slice A9 (j + 1) k9) w9 ∧ w9.ownsRow W.heap.size 39 3 (.slice A9 (j + 1) k9) (j + 1) (rcells (R.take j ++ [l])) ∧ Mod (fun _ => False) W w9
theorem h37 {W : World} {j m : Nat} {R : List Let} {l : Let} (hm : m < 200) (hj : j ≤ m) : H37 W j R l := by
  intro A8 k8 w8 hm8 ho8 Y sb hmY hV
  have hsz := hm8.size
  have hsz2 := hmY.size
  obtain ⟨A9, k9, w9, hr, ho, hm9, hv, _⟩ := app_one W.heap.size j sb _ _ Y (own_mod ho8 hmY (fun _ _ h => h)) (by omega) l hV (by omega)
  refine ⟨A9, k9, w9, hr, ?_, (hm8.trans hmY (fun _ h => h.elim)).trans hm9 (fun i hi => .inr (own_lt ho8 hi).1)⟩
  rw [rcells_one_letter]
  exact ho
def H41 (B g s : Nat) (v : Value) (W0 W : World) (r j m c5 : Nat) (R : List Let) (l : Let) : Prop := ∀ A9 k9 w9, Mod (fun _ => False) W w9 → w9.ownsRow W.heap.size 39 3 (.slice A9 (j + 1) k9) (j + 1) (rcells (R.take j ++ [l])) →
  ∃ A10 k10 w10, (Builtin.append_ #[27, 27] 27 #[.slice A9 (j + 1) k9, .slice (if c5 = j then some ⟨r, 0, none⟩ else some ⟨r, j * 3, none⟩) (m - j) (c5 - j)]).run Try.prog w9 = .ok (.slice A10 (m + 1) k10) w10 ∧ w10.cell? ⟨g, 0, none⟩ = some v ∧ w10.frozen? ⟨g, 0, none⟩ = false ∧ Mod (fun _ => False) W w10 ∧ RKept B g v (R.take j ++ [l] ++ R.drop j) s W0 (w10.setCell ⟨g, 0, none⟩ (.slice A10 (m + 1) k10))
theorem h41 {B g s : Nat} {v : Value} {L : List Let} {W0 W : World} {r j m c5 : Nat} {R : List Let} {l : Let} (h : RefAt B W0 g v L s) (hmW : Mod (fun _ => False) W0 W) (hrow : ∀ p u, (rcells R)[p]? = some u → W.cell? ⟨r, p, none⟩ = some u) (hR : R.length = m) (hm : m < 200) (hj : j ≤ m) (hc : m ≤ c5) : H41 B g s v W0 W r j m c5 R l := by
  intro A9 k9 w9 hm9 ho9
  obtain ⟨Ad, hA⟩ : ∃ Ad : Addr, (if c5 = j then (some ⟨r, 0, none⟩ : Option Addr) else some ⟨r, j * 3, none⟩) = some Ad := by split <;> exact ⟨_, rfl⟩
  have hg := h.blk.lt
  have hbase := h.base
  have hszW := hmW.size
  rw [hA]
  obtain ⟨A10, k10, w10, hr, ho, hm10, hv, _⟩ := app_ref W.heap.size (j + 1) _ _ w9 ho9 Ad (m - j) (c5 - j) (rcells (R.drop j)) (by omega) (by rw [rcells_len, List.length_drop]; omega)
    (fun p u hp => by
      have hlt := (List.getElem?_eq_some_iff.1 hp).1
      rw [rcells_len, List.length_drop] at hlt
      rw [if_neg (by omega)] at hA
      obtain rfl := Option.some.inj hA
      rw [Addr.add_lit]
      refine cell_mod hm9 (hrow _ u ?_) (fun h => h)
      rw [← rcells_drop, List.getElem?_drop] at hp
      exact hp) (rcells_one _) hm9.size
  have hjm : j + 1 + (m - j) = m + 1 := by omega
  rw [hjm] at hr ho hv
  have hM10 : Mod (fun _ => False) W w10 := hm9.trans hm10 (fun i hi => .inr (own_lt ho9 hi).1)
  have hb10 := h.blk.mod (hmW.trans hM10 (fun _ h => h.elim)) (fun h => h)
  refine ⟨A10, k10, w10, hr, hb10.cell 0, hb10.frozen 0, hM10, put_ref hg ((hmW.trans hM10 (fun _ h => h.elim)).mono (fun _ h => h.elim)) hb10 ?_ (fun a ha => .inr ?_) hbase h.sides ?_⟩
  · have hlen : (R.take j ++ [l] ++ R.drop j).length = m + 1 := by simp; omega
    rw [hlen, rcells_append]
    exact own_base ho (by omega)
  · rcases hv a ha with h | h
    · have := (own_lt ho9 h).1; omega
    · have := hm9.size; omega
  · simp; omega
theorem keep3 {h7 : Nat} {x y z : Value} {w w' : World} (h : w.cell? ⟨h7, 0, none⟩ = some x ∧ w.cell? ⟨h7, 1, none⟩ = some y ∧ w.cell? ⟨h7, 2, none⟩ = some z) (hm : Mod (fun _ => False) w w') :
    w'.cell? ⟨h7, 0, none⟩ = some x ∧ w'.cell? ⟨h7, 1, none⟩ = some y ∧ w'.cell? ⟨h7, 2, none⟩ = some z :=
  ⟨cell_mod hm h.1 (fun h => h), cell_mod hm h.2.1 (fun h => h), cell_mod hm h.2.2 (fun h => h)⟩
theorem keep3s {g h7 : Nat} {v x y z : Value} {w w' : World} (hg : ¬ h7 = g) (h : w.cell? ⟨h7, 0, none⟩ = some x ∧ w.cell? ⟨h7, 1, none⟩ = some y ∧ w.cell? ⟨h7, 2, none⟩ = some z) (hm : Mod (fun _ => False) w w') :
    (w'.setCell ⟨g, 0, none⟩ v).cell? ⟨h7, 0, none⟩ = some x ∧ (w'.setCell ⟨g, 0, none⟩ v).cell? ⟨h7, 1, none⟩ = some y ∧ (w'.setCell ⟨g, 0, none⟩ v).cell? ⟨h7, 2, none⟩ = some z := by
  have hm' : Mod (· = g) w' (w'.setCell ⟨g, 0, none⟩ v) := (Mod.refl (· = g) w').setCell (p := ⟨g, 0, none⟩) (.inl rfl) _
  have h := keep3 h hm
  exact ⟨cell_mod hm' h.1 hg, cell_mod hm' h.2.1 hg, cell_mod hm' h.2.2 hg⟩

theorem letter_after1 {W w8 : World} {cs : Array Value} (h : Mod (fun b => b = W.heap.size) ((W.alloc (.cells #[] 39)).alloc (.cells cs 39)).drew w8) : Blk w8 (W.alloc (.cells #[] 39)).heap.size cs 39 :=
  (Blk.new (W.alloc (.cells #[] 39)) cs 39).drew.mod h (by simp)
theorem letter_after2 {W w8 : World} {cs : Array Value} (h : Mod (fun b => b = (W.alloc (.cells cs 39)).heap.size) ((W.alloc (.cells cs 39)).alloc (.cells #[] 39)).drew w8) : Blk w8 W.heap.size cs 39 :=
  ((Blk.new W cs 39).alloc _).drew.mod h (by simp)
theorem alloc_le (W : World) (o : Obj) : W.heap.size ≤ (W.alloc o).heap.size := by simp

set_option maxRecDepth 100000 in
set_option maxHeartbeats 3200000 in
theorem rmove_any (B g s : Nat) (v : Value) (L : List Let) (i j : Int) (w : World) (h : RefAt B w g v L s) : Calls Try.prog 21 #[.pointer (some ⟨g, 0, none⟩), .int .i64 i, .int .i64 j] w fun e w' => e = .returned (.bool (moveOk L i j)) ∧ RKept B g v (moved L i j) s w w' := by
  have Hlook := Lib.hid (fun w' (hm : Mod (fun _ => False) w w') => rlook_any B g s v L i w' (h.new hm (fun _ h => h.elim)))
  have Hhas := Lib.hid (fun w' (hm : Mod (fun _ => False) w w') => has_any B g s v L j w' (h.new hm (fun _ h => h.elim)))
  have Hout := Lib.hid (fun w' k hk (hm : Mod (fun _ => False) w w') => out_any B g s v L k w' (h.new hm (fun _ h => h.elim)) hk)
  have Hsame := Lib.hid (fun w' (hm : Mod (fun _ => False) w w') => RKept.same h hm)
  have Hh := Lib.hid h
  have hglt := h.blk.lt
  have hfew := h.few
  clear h
  go_enter Try.func21, Try.ntmps21
  go_wp2_with (fail)
  refine (Hlook.out w (Mod.refl _ _)).mono ?_
  rintro e w2 ⟨rfl, hm2⟩
  rw [lval_cells]
  by_cases hok : moveOk L i j = true
  · have hin : 0 ≤ i ∧ i < L.length ∧ 0 ≤ j ∧ j < L.length := of_decide_eq_true hok
    have h1 : hasOk L i = true := by unfold hasOk; rw [decide_eq_true]; omega
    have h2 : hasOk L j = true := by unfold hasOk; rw [decide_eq_true]; omega
    obtain ⟨k, rfl⟩ := Int.eq_ofNat_of_zero_le hin.1
    obtain ⟨q, rfl⟩ := Int.eq_ofNat_of_zero_le hin.2.2.1
    have hk : k < L.length := by omega
    have hq : q < L.length := by omega
    have hrl : L[k]? = some (rl L k) := by unfold rl; rw [if_pos h1]; simp [hk]
    have hmv : moved L k q = (L.take k ++ L.drop (k + 1)).take q ++ [rl L k] ++ (L.take k ++ L.drop (k + 1)).drop q := by
      unfold moved moved1
      rw [if_pos hok]
      simp only [Int.toNat_natCast]
      rw [hrl]; rfl
    have hRl := cut_len L k hk
    obtain ⟨R, hR⟩ : ∃ R, L.take k ++ L.drop (k + 1) = R := ⟨_, rfl⟩
    rw [hR] at hmv hRl
    rw [h1]
    generalize rl L k = l at *
    have hm3 := hm2.alloc (.cells #[.int .i64 l.f, .int .i64 l.t, .string ⟨l.b.toArray⟩] 39)
    have hb3 := Blk.new w2 #[.int .i64 l.f, .int .i64 l.t, .string ⟨l.b.toArray⟩] 39
    have hhas := Hhas.out _ hm3
    rw [h2] at hhas
    have Hok := Lib.hid hok
    have Hmv := Lib.hid hmv
    have Hh1 := Lib.hid hhas
    clear hhas hok hmv h1 h2 hrl
    go_wp2_with (fail)
    generalize w2.alloc (.cells #[.int .i64 l.f, .int .i64 l.t, .string ⟨l.b.toArray⟩] 39) = w3 at *
    obtain ⟨h7, hh7⟩ : ∃ h7, w2.heap.size = h7 := ⟨_, rfl⟩
    rw [hh7] at hb3 ⊢
    have hg7 : ¬ h7 = g := by have := hm2.size; omega
    refine Hh1.out.mono ?_
    rintro e _ ⟨rfl, rfl⟩
    go_wp2_with (fail)
    refine (Hout.out w3 k hk hm3).mono ?_
    rintro e w5 ⟨A5, c5, rfl, ho5, hm5, r, rfl⟩
    obtain ⟨m, hlm⟩ : ∃ m, L.length - 1 = m := ⟨_, rfl⟩
    rw [hR, hlm] at ho5
    rw [hlm] at hRl ⊢
    have hmW : Mod (fun _ => False) w w5 := hm3.trans hm5 (fun _ h => h.elim)
    obtain ⟨cur, hrB, hmc, hcx, hrs, hrx⟩ : ∃ cur, Blk w5 r cur 39 ∧ m ≤ c5 ∧ c5 ≤ maxLen ∧ cur.size = c5 * 3 ∧ cur.toList.take (m * 3) = rcells R := by
      rcases own_cases ho5 with ⟨h, _⟩ | ⟨g', cap', cur', hv, _, hB', hn', hc', hs', hx'⟩
      · cases h
      · injection hv with e1 e2 e3
        injection e1 with e1
        injection e1 with e1
        subst e1 e3
        exact ⟨cur', hB', hn', hc', hs', hx'⟩
    have hrow : ∀ p u, (rcells R)[p]? = some u → w5.cell? ⟨r, p, none⟩ = some u := fun p u hu => by
      have hj : p < m * 3 := by have := (List.getElem?_eq_some_iff.1 hu).1; rw [rcells_len] at this; omega
      rw [hrB.cell]
      rw [← hrx, List.getElem?_take_of_lt hj] at hu
      simpa using hu
    have a34 := h34 (r := r) (c5 := c5) hrow hRl (by omega) (show q ≤ m by omega)
    have a37 := h37 (W := w5) (R := R) (l := l) (show m < 200 by omega) (show q ≤ m by omega)
    have a41 := h41 (l := l) Hh.out hmW hrow hRl (by omega) (show q ≤ m by omega) hmc
    have hb5 := hb3.mod hm5 (fun h => h)
    have hS0 : w5.cell? ⟨h7, 0, none⟩ = some (.int .i64 l.f) ∧ w5.cell? ⟨h7, 1, none⟩ = some (.int .i64 l.t) ∧ w5.cell? ⟨h7, 2, none⟩ = some (.string ⟨l.b.toArray⟩) := ⟨hb5.cell 0, hb5.cell 1, hb5.cell 2⟩
    have hS0' : w5.drew.cell? ⟨h7, 0, none⟩ = some (.int .i64 l.f) ∧ w5.drew.cell? ⟨h7, 1, none⟩ = some (.int .i64 l.t) ∧ w5.drew.cell? ⟨h7, 2, none⟩ = some (.string ⟨l.b.toArray⟩) := hS0
    have A34 := Lib.hid a34
    have A37 := Lib.hid a37
    have A41 := Lib.hid a41
    unfold maxLen at hcx
    have hq1 : (q : Int) ≤ (c5 : Int) := by omega
    have hq2 : (q : Int) ≤ (m : Int) := by omega
    have hq3 : (m : Int) ≤ (c5 : Int) := by omega
    clear a34 a37 a41 hrow hrB hrx hrs ho5 hb3 hb5 hm2 hm3 hm5 hmW hR hRl hlm hh7
    go_wp2
    go_region_held3 (fun w' => w'.cell? ⟨h7, 0, none⟩ = some (.int .i64 l.f) ∧ w'.cell? ⟨h7, 1, none⟩ = some (.int .i64 l.t) ∧ w'.cell? ⟨h7, 2, none⟩ = some (.string ⟨l.b.toArray⟩))
      (first | assumption | exact keep3 hS0 ((Mod.refl _ w5).alloc _).drew | exact keep3 hS0 (((Mod.refl _ w5).alloc _).alloc _).drew | exact keep3 hS0 hM8 | exact keep3 hS0 (hM8.alloc _) | exact keep3 hS0 hM9 | exact keep3 hS0 hM10 | exact keep3s hg7 hS0 hM10)
      (first
        | (obtain ⟨A8, k8, w8, hr8, ho8, hx8, hM8⟩ := A34.out _ _ ((Mod.refl _ w5).alloc (.cells #[] 39)).drew (Blk.new _ _ _).drew (Nat.le_refl _); refine step_append_run rfl _ _ 27 27 rfl _ _ (by simp [Act.eval]) (by simp [Act.eval]) hr8 ?_)
        | (obtain ⟨A8, k8, w8, hr8, ho8, hx8, hM8⟩ := A34.out _ _ (((Mod.refl _ w5).alloc (.cells #[] 39)).alloc (.cells #[.int .i64 l.f, .int .i64 l.t, .string ⟨l.b.toArray⟩] 39)).drew ((Blk.new _ _ _).alloc _).drew (Nat.le_refl _); have hV := letter_after1 hx8; refine step_append_run rfl _ _ 27 27 rfl _ _ (by simp [Act.eval]) (by simp [Act.eval]) hr8 ?_)
        | (obtain ⟨A8, k8, w8, hr8, ho8, hx8, hM8⟩ := A34.out _ _ (((Mod.refl _ w5).alloc (.cells #[.int .i64 l.f, .int .i64 l.t, .string ⟨l.b.toArray⟩] 39)).alloc (.cells #[] 39)).drew (Blk.new _ _ _).drew (alloc_le _ _); have hV := letter_after2 hx8; refine step_append_run rfl _ _ 27 27 rfl _ _ (by simp [Act.eval]) (by simp [Act.eval]) hr8 ?_)
        | (obtain ⟨A9, k9, w9, hr9, ho9, hM9⟩ := A37.out _ _ _ hM8 ho8 _ _ (Mod.refl _ w8) hV; refine step_append_run rfl _ _ 27 27 rfl _ _ (by simp [Act.eval]) (by simp [Act.eval]) hr9 ?_)
        | (obtain ⟨A9, k9, w9, hr9, ho9, hM9⟩ := A37.out _ _ _ hM8 ho8 _ _ ((Mod.refl _ w8).alloc (.cells #[.int .i64 l.f, .int .i64 l.t, .string ⟨l.b.toArray⟩] 39)) (Blk.new _ _ _); refine step_append_run rfl _ _ 27 27 rfl _ _ (by simp [Act.eval]) (by simp [Act.eval]) hr9 ?_)
        | (obtain ⟨A10, k10, w10, hr10, c10, f10, hM10, hk10⟩ := A41.out _ _ _ hM9 ho9; refine step_append_run rfl _ _ 27 27 rfl _ _ (by simp [Act.eval]) (by simp [Act.eval]) hr10 ?_))
    all_goals (have Hk10 := Lib.hid hk10; clear hk10; go_wp2; all_goals (go_ret; exact ⟨by rw [Hok.out]; rfl, by rw [Hmv.out]; exact Hk10.out⟩))
  · have hok' : moveOk L i j = false := by simpa using hok
    have hmv : moved L i j = L := by unfold moved; rw [hok']; rfl
    have hx : hasOk L i = false ∨ (hasOk L i = true ∧ hasOk L j = false) := by
      cases h1 : hasOk L i with
      | false => exact .inl rfl
      | true =>
        cases h2 : hasOk L j with
        | false => exact .inr ⟨rfl, rfl⟩
        | true =>
          have a1 : 0 ≤ i ∧ i < L.length := of_decide_eq_true h1
          have a2 : 0 ≤ j ∧ j < L.length := of_decide_eq_true h2
          have : moveOk L i j = true := by unfold moveOk; rw [decide_eq_true]; omega
          rw [this] at hok'; cases hok'
    have hm3 := hm2.alloc (.cells #[.int .i64 (rl L i).f, .int .i64 (rl L i).t, .string ⟨(rl L i).b.toArray⟩] 39)
    have Hh1 := Lib.hid (Hhas.out _ hm3)
    have Hs3 := Lib.hid (Hsame.out _ hm3)
    have Hok := Lib.hid hok'
    have Hmv := Lib.hid hmv
    generalize rl L i = l at *
    clear hok hok' hmv hm2 hm3
    rcases hx with h1 | ⟨h1, h2⟩
    · rw [h1]
      go_wp2_with (fail)
      refine Hh1.out.mono ?_
      rintro e _ ⟨rfl, rfl⟩
      go_wp2
      go_ret
      exact ⟨by rw [Hok.out]; rfl, by rw [Hmv.out]; exact Hs3.out⟩
    · rw [h1]
      rw [h2] at Hh1
      go_wp2_with (fail)
      refine Hh1.out.mono ?_
      rintro e _ ⟨rfl, rfl⟩
      go_wp2
      go_ret
      exact ⟨by rw [Hok.out]; rfl, by rw [Hmv.out]; exact Hs3.out⟩
end Go.Proofs.Ytjhlabpnjkepbaa
