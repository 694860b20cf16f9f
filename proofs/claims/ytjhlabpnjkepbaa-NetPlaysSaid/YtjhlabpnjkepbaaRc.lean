/-
  The document's Take and Move.
-/
import Derived.Test.YtjhlabpnjkepbaaRb
namespace Go.Proofs.Ytjhlabpnjkepbaa
open Go.RowKit Mem
set_option linter.unusedVariables false

def taken (L : List Let) (s : Nat) (i : Int) : List Let := if takeOk L s i then L.take i.toNat ++ L.drop (i.toNat + 1) else L
def tl (L : List Let) (s : Nat) (i : Int) : Let := if takeOk L s i then rl L i else ⟨0, 0, []⟩
theorem takeOk_has {L : List Let} {s : Nat} {i : Int} (h : takeOk L s i = true) : hasOk L i = true := by
  unfold takeOk at h
  unfold hasOk
  split at h
  · rename_i l hl
    have := (List.getElem?_eq_some_iff.1 hl).1
    simp only [Bool.and_eq_true, decide_eq_true_eq] at h
    rw [decide_eq_true]; omega
  · cases h
theorem takeOk_eq {L : List Let} {s : Nat} {i : Int} (h : hasOk L i = true) : takeOk L s i = reach s (rl L i).f (rl L i).t := by
  have hin : 0 ≤ i ∧ i < L.length := of_decide_eq_true h
  have hk : i.toNat < L.length := by omega
  unfold takeOk rl
  rw [if_pos h, List.getElem?_eq_getElem hk]
  simp [hin.1]

theorem rtake_put {B g s k h4 : Nat} {v : Value} {L : List Let} {w w4 w5 : World} {e : Ending} (h : RefAt B w g v L s) (hk : k < L.length) (hm4 : Mod (fun _ => False) w w4) (ho : Outs L k w4 e w5) (hl : w.heap.size ≤ h4) (hu : h4 < w4.heap.size) :
    ∃ A c, e = .returned (.slice A (L.length - 1) c) ∧ w5.cell? ⟨g, 0, none⟩ = some v ∧ w5.frozen? ⟨g, 0, none⟩ = false ∧ Mod (fun _ => False) w4 w5 ∧ ∀ w7, Mod (fun i => i = h4) (w5.setCell ⟨g, 0, none⟩ (.slice A (L.length - 1) c)) w7 → RKept B g v (L.take k ++ L.drop (k + 1)) s w w7 := by
  obtain ⟨A, c, he, how, hm, _⟩ := ho
  have hm5 : Mod (fun _ => False) w w5 := hm4.trans hm (fun _ h => h.elim)
  have hb5 := h.blk.mod hm5 (fun h => h)
  have hB : B ≤ w4.heap.size := by have := h.blk.lt; have := h.base; have := hm4.size; omega
  have hglt := h.blk.lt
  refine ⟨A, c, he, hb5.cell 0, hb5.frozen 0, hm, fun w7 h7 => ?_⟩
  have hlen := cut_len L k hk
  have hset : Mod (· = g) w5 (w5.setCell ⟨g, 0, none⟩ (.slice A (L.length - 1) c)) := (Mod.refl (· = g) w5).setCell (p := ⟨g, 0, none⟩) (.inl rfl) _
  have hgv : ∀ a, (Value.slice A (L.length - 1) c).ownBlock = some a → ¬ a = g := fun a ha => by obtain ⟨cur, hc⟩ := own_type how ha; exact Blk.ne hc hb5 (by decide)
  refine ⟨.slice A (L.length - 1) c, ⟨(hb5.set 0 _).mod h7 (by omega), ?_, h.base, h.sides, by rw [hlen]; have := h.few; omega⟩, fun a ha => .inr ?_, ?_⟩
  · rw [hlen]
    exact own_base (own_mod (own_mod how hset hgv) h7 (fun a ha => by have := (own_lt how ha).1; omega)) hB
  · have := (own_lt how ha).1
    have := hm4.size
    omega
  · exact ((hm5.mono (fun _ h => h.elim)).trans (hset.mono (T := fun b => b = g ∨ v.ownBlock = some b) (fun i hi => .inl hi)) (fun i hi => .inl hi)).trans h7 (fun i hi => .inr (by omega))

set_option maxRecDepth 100000 in
set_option maxHeartbeats 1600000 in
theorem rtake_any (B g s : Nat) (v : Value) (L : List Let) (i : Int) (w : World) (h : RefAt B w g v L s) : Calls Try.prog 19 #[.pointer (some ⟨g, 0, none⟩), .int .i64 i] w fun e w' => e = .returned (.tuple #[lval (tl L s i), .bool (takeOk L s i)]) ∧ RKept B g v (taken L s i) s w w' := by
  have Hlook := Lib.hid (fun w' (hm : Mod (fun _ => False) w w') => rlook_any B g s v L i w' (h.new hm (fun _ h => h.elim)))
  have Hreach := Lib.hid (fun w' f t (hm : Mod (fun _ => False) w w') => rreach_any B g s v L f t w' (h.new hm (fun _ h => h.elim)))
  have Hout := Lib.hid (fun w' k hk (hm : Mod (fun _ => False) w w') => out_any B g s v L k w' (h.new hm (fun _ h => h.elim)) hk)
  have Hsame := Lib.hid (fun w' (hm : Mod (fun _ => False) w w') => RKept.same h hm)
  have Hput := Lib.hid (fun k h4 w4 w5 e hk hm4 ho hl hu => rtake_put (k := k) (h4 := h4) (w4 := w4) (w5 := w5) (e := e) h hk hm4 ho hl hu)
  have hglt := h.blk.lt
  clear h
  go_enter Try.func19, Try.ntmps19
  go_wp2_with (fail)
  have hal : Mod (fun _ => False) w (w.alloc (.cells #[.int .i64 0, .int .i64 0, .string ⟨#[]⟩] 39)) := (Mod.refl _ w).alloc _
  have hb4 := Blk.new w #[.int .i64 0, .int .i64 0, .string ⟨#[]⟩] 39
  generalize w.alloc (.cells #[.int .i64 0, .int .i64 0, .string ⟨#[]⟩] 39) = w1 at *
  obtain ⟨h4, hh4⟩ : ∃ h4, w.heap.size = h4 := ⟨_, rfl⟩
  rw [hh4] at hb4 ⊢
  refine (Hlook.out w1 hal).mono ?_
  rintro e w2 ⟨rfl, hm12⟩
  have hm2 : Mod (fun _ => False) w w2 := hal.trans hm12 (fun _ h => h.elim)
  have hb42 := hb4.mod hm12 (fun h => h)
  by_cases hok : hasOk L i = true
  · by_cases hr : reach s (rl L i).f (rl L i).t = true
    · have hin : 0 ≤ i ∧ i < L.length := of_decide_eq_true hok
      obtain ⟨k, rfl⟩ := Int.eq_ofNat_of_zero_le hin.1
      have hk : k < L.length := by omega
      have htk : takeOk L s (k : Int) = true := by rw [takeOk_eq hok, hr]
      have htl : tl L s (k : Int) = rl L k := by unfold tl; rw [htk]; rfl
      have htd : taken L s (k : Int) = L.take k ++ L.drop (k + 1) := by unfold taken; rw [htk]; rfl
      rw [hok, lval_cells]
      generalize rl L k = l at *
      have hb6 := Blk.new w2 #[.int .i64 l.f, .int .i64 l.t, .string ⟨l.b.toArray⟩] 39
      have hm3 := hm2.alloc (.cells #[.int .i64 l.f, .int .i64 l.t, .string ⟨l.b.toArray⟩] 39)
      have hb43 := hb42.alloc (.cells #[.int .i64 l.f, .int .i64 l.t, .string ⟨l.b.toArray⟩] 39)
      have hlt42 := hb42.lt
      have hle4 : w.heap.size ≤ h4 := Nat.le_of_eq hh4
      have hsz2 := hm2.size
      have hg4 : ¬ g = h4 := by omega
      have hrc := Hreach.out _ l.f l.t hm3
      rw [hr] at hrc
      have Htl := Lib.hid htl
      have Htd := Lib.hid htd
      have Htk := Lib.hid htk
      have Hrc := Lib.hid hrc
      clear htl htd htk hrc hr hok hb42 hb4 hal hm12
      go_wp2_with (fail)
      generalize w2.alloc (.cells #[.int .i64 l.f, .int .i64 l.t, .string ⟨l.b.toArray⟩] 39) = w3 at *
      obtain ⟨h6, hh6⟩ : ∃ h6, w2.heap.size = h6 := ⟨_, rfl⟩
      rw [hh6] at hb6 ⊢
      have hg6 : ¬ g = h6 := by omega
      have h46 : ¬ h4 = h6 := by omega
      refine Hrc.out.mono ?_
      rintro e w4 ⟨rfl, hd4⟩
      have hm4 := hm3.trans (hd4.mod (S := fun _ => False)) (fun _ h => h.elim)
      have hb44 := hb43.dr hd4
      have hb64 := hb6.dr hd4
      have hlt44 := hb44.lt
      go_wp2_with (fail)
      refine (Hout.out w4 k hk hm4).mono ?_
      rintro e w5 ho5
      obtain ⟨A5, c5, rfl, c05, f05, hm45, hfin⟩ := Hput.out k h4 w4 w5 e hk hm4 ho5 hle4 hlt44
      have hb45 := hb44.mod hm45 (fun h => h)
      have hb65 := hb64.mod hm45 (fun h => h)
      have Hb45 := Lib.hid hb45
      have Hfin := Lib.hid hfin
      have x0 : w5.cell? ⟨h6, 0, none⟩ = some (.int .i64 l.f) := hb65.cell 0
      have x1 : w5.cell? ⟨h6, 1, none⟩ = some (.int .i64 l.t) := hb65.cell 1
      have x2 : w5.cell? ⟨h6, 2, none⟩ = some (.string ⟨l.b.toArray⟩) := hb65.cell 2
      have y0 : w5.cell? ⟨h4, 0, none⟩ = some (.int .i64 0) := hb45.cell 0
      have y1 : w5.cell? ⟨h4, 1, none⟩ = some (.int .i64 0) := hb45.cell 1
      have y2 : w5.cell? ⟨h4, 2, none⟩ = some (.string ⟨#[]⟩) := hb45.cell 2
      have z0 := hb45.frozen 0
      have z1 := hb45.frozen 1
      have z2 := hb45.frozen 2
      clear hfin hb45 hb65 hb44 hb64 hb43 hb6 hm45 hm4 hd4 hm3 hm2 ho5
      go_wp2
      have hB := ((((Blk.far Hb45.out (p := ⟨g, 0, none⟩) (fun h => hg4 h.symm) (.slice A5 (L.length - 1) c5)).set 0 (.int .i64 l.f)).set 1 (.int .i64 l.t)).set 2 (.string ⟨l.b.toArray⟩))
      have hM := Hfin.out _ ((((Mod.refl (fun i => i = h4) _).setCell (p := ⟨h4, 0, none⟩) (.inl rfl) (.int .i64 l.f)).setCell (p := ⟨h4, 1, none⟩) (.inl rfl) (.int .i64 l.t)).setCell (p := ⟨h4, 2, none⟩) (.inl rfl) (.string ⟨l.b.toArray⟩))
      generalize (((w5.setCell ⟨g, 0, none⟩ (.slice A5 (L.length - 1) c5)).setCell ⟨h4, 0, none⟩ (.int .i64 l.f)).setCell ⟨h4, 1, none⟩ (.int .i64 l.t)).setCell ⟨h4, 2, none⟩ (.string ⟨l.b.toArray⟩) = W at *
      have r0 : W.cell? ⟨h4, 0, none⟩ = some (.int .i64 l.f) := hB.cell 0
      have r1 : W.cell? ⟨h4, 1, none⟩ = some (.int .i64 l.t) := hB.cell 1
      have r2 : W.cell? ⟨h4, 2, none⟩ = some (.string ⟨l.b.toArray⟩) := hB.cell 2
      exact bodyPost_ret (v := .tuple #[lval l, .bool true]) (by simp [results, Try.results19, go_sem, lval, r0, r1, r2]) rfl ⟨by rw [Htl.out, Htk.out], by rw [Htd.out]; exact hM⟩
    · have hr' : reach s (rl L i).f (rl L i).t = false := by simpa using hr
      have htk : takeOk L s i = false := by rw [takeOk_eq hok, hr']
      have htl : tl L s i = ⟨0, 0, []⟩ := by unfold tl; rw [htk]; rfl
      have htd : taken L s i = L := by unfold taken; rw [htk]; rfl
      rw [hok, lval_cells]
      generalize rl L i = l at *
      have hb6 := Blk.new w2 #[.int .i64 l.f, .int .i64 l.t, .string ⟨l.b.toArray⟩] 39
      have hm3 := hm2.alloc (.cells #[.int .i64 l.f, .int .i64 l.t, .string ⟨l.b.toArray⟩] 39)
      have hb43 := hb42.alloc (.cells #[.int .i64 l.f, .int .i64 l.t, .string ⟨l.b.toArray⟩] 39)
      have hle4 : w.heap.size ≤ h4 := Nat.le_of_eq hh4
      have hrc := Hreach.out _ l.f l.t hm3
      rw [hr'] at hrc
      have Htl := Lib.hid htl
      have Htd := Lib.hid htd
      have Htk := Lib.hid htk
      have Hrc := Lib.hid hrc
      clear htl htd htk hrc hr hr' hok hb42 hb4 hal hm12
      go_wp2_with (fail)
      generalize w2.alloc (.cells #[.int .i64 l.f, .int .i64 l.t, .string ⟨l.b.toArray⟩] 39) = w3 at *
      refine Hrc.out.mono ?_
      rintro e w4 ⟨rfl, hd4⟩
      have hm4 := hm3.trans (hd4.mod (S := fun _ => False)) (fun _ h => h.elim)
      have hb44 := hb43.dr hd4
      have q0 : w4.cell? ⟨h4, 0, none⟩ = some (.int .i64 0) := hb44.cell 0
      have q1 : w4.cell? ⟨h4, 1, none⟩ = some (.int .i64 0) := hb44.cell 1
      have q2 : w4.cell? ⟨h4, 2, none⟩ = some (.string ⟨#[]⟩) := hb44.cell 2
      have p0 := hb44.frozen 0
      have p1 := hb44.frozen 1
      have p2 := hb44.frozen 2
      have Hb44 := Lib.hid hb44
      have Hm4 := Lib.hid hm4
      clear hb44 hm4 hb43 hb6 hd4 hm3 hm2
      go_wp2
      have hB := (((Hb44.out.set 0 (.int .i64 0)).set 1 (.int .i64 0)).set 2 (.string ⟨#[]⟩))
      have hM := (((Hm4.out.setCell (p := ⟨h4, 0, none⟩) (.inr hle4) (.int .i64 0)).setCell (p := ⟨h4, 1, none⟩) (.inr hle4) (.int .i64 0)).setCell (p := ⟨h4, 2, none⟩) (.inr hle4) (.string ⟨#[]⟩))
      generalize ((w4.setCell ⟨h4, 0, none⟩ (.int .i64 0)).setCell ⟨h4, 1, none⟩ (.int .i64 0)).setCell ⟨h4, 2, none⟩ (.string ⟨#[]⟩) = W at *
      have r0 : W.cell? ⟨h4, 0, none⟩ = some (.int .i64 0) := hB.cell 0
      have r1 : W.cell? ⟨h4, 1, none⟩ = some (.int .i64 0) := hB.cell 1
      have r2 : W.cell? ⟨h4, 2, none⟩ = some (.string ⟨#[]⟩) := hB.cell 2
      exact bodyPost_ret (v := .tuple #[lval ⟨0, 0, []⟩, .bool false]) (by simp [results, Try.results19, go_sem, lval, r0, r1, r2]) rfl ⟨by rw [Htl.out, Htk.out], by rw [Htd.out]; exact Hsame.out _ hM⟩
  · have hok' : hasOk L i = false := by simpa using hok
    have htk : takeOk L s i = false := by
      cases ht : takeOk L s i with
      | false => rfl
      | true => rw [takeOk_has ht] at hok'; cases hok'
    have htl : tl L s i = ⟨0, 0, []⟩ := by unfold tl; rw [htk]; rfl
    have htd : taken L s i = L := by unfold taken; rw [htk]; rfl
    rw [hok', lval_cells]
    generalize rl L i = l at *
    have q0 : w2.cell? ⟨h4, 0, none⟩ = some (.int .i64 0) := hb42.cell 0
    have q1 : w2.cell? ⟨h4, 1, none⟩ = some (.int .i64 0) := hb42.cell 1
    have q2 : w2.cell? ⟨h4, 2, none⟩ = some (.string ⟨#[]⟩) := hb42.cell 2
    have hlt4 := hb42.lt
    have p0 := hb42.frozen 0
    have p1 := hb42.frozen 1
    have p2 := hb42.frozen 2
    have Htk := Lib.hid htk
    have Htl := Lib.hid htl
    have Htd := Lib.hid htd
    have Hm2 := Lib.hid hm2
    have Hb42 := Lib.hid hb42
    have Hle := Lib.hid (Nat.le_of_eq hh4)
    clear htk htl htd hok hok' hm2 hm12 hal hb4 hb42 hh4
    go_wp2
    have hB := (((Hb42.out.set 0 (.int .i64 0)).set 1 (.int .i64 0)).set 2 (.string ⟨#[]⟩)).alloc (.cells #[.int .i64 l.f, .int .i64 l.t, .string ⟨l.b.toArray⟩] 39)
    have hM := (((Hm2.out.setCell (p := ⟨h4, 0, none⟩) (.inr Hle.out) (.int .i64 0)).setCell (p := ⟨h4, 1, none⟩) (.inr Hle.out) (.int .i64 0)).setCell (p := ⟨h4, 2, none⟩) (.inr Hle.out) (.string ⟨#[]⟩)).alloc (.cells #[.int .i64 l.f, .int .i64 l.t, .string ⟨l.b.toArray⟩] 39)
    generalize (((w2.setCell ⟨h4, 0, none⟩ (.int .i64 0)).setCell ⟨h4, 1, none⟩ (.int .i64 0)).setCell ⟨h4, 2, none⟩ (.string ⟨#[]⟩)).alloc (.cells #[.int .i64 l.f, .int .i64 l.t, .string ⟨l.b.toArray⟩] 39) = W at *
    have r0 : W.cell? ⟨h4, 0, none⟩ = some (.int .i64 0) := hB.cell 0
    have r1 : W.cell? ⟨h4, 1, none⟩ = some (.int .i64 0) := hB.cell 1
    have r2 : W.cell? ⟨h4, 2, none⟩ = some (.string ⟨#[]⟩) := hB.cell 2
    exact bodyPost_ret (v := .tuple #[lval ⟨0, 0, []⟩, .bool false]) (by simp [results, Try.results19, go_sem, lval, r0, r1, r2]) rfl ⟨by rw [Htl.out, Htk.out], by rw [Htd.out]; exact Hsame.out _ hM⟩
end Go.Proofs.Ytjhlabpnjkepbaa
