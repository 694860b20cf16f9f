/-
  The small case that must work (shown).
-/
import Derived.Test.YtbmflpojcgocaaaCc
import Derived.Test.YtbmflpojcgocaaaCd
import Derived.Test.YtbmflpojcgocaaaCe
namespace Go.Proofs.Ytbmflpojcgocaaa
open Go.RowKit Mem Pl

def tabA : ByteArray := ⟨#[9, 97]⟩
theorem fits0 (line : ByteArray) (h : line.size ≤ 3100) : Fits line ⟨0, 0, 0⟩ := ⟨Nat.zero_le _, h, Nat.le_refl _⟩
theorem fitsA : Fits tabA ⟨1, 2, 2⟩ := ⟨by decide, by decide, by decide⟩

theorem s_indent (g : Nat) (w : World) (h : Cur w g tabA ⟨0, 0, 0⟩) : Calls Try.prog 10 #[.pointer (some ⟨g, 0, none⟩)] w fun e w' => e = .returned (.int .i64 4) ∧ Dr w w' :=
  (indent_any g tabA _ w h (fits0 _ (by decide))).mono fun e w' ⟨he, hd⟩ => ⟨by rw [he]; rfl, hd⟩
theorem s_skip (g : Nat) (w : World) (h : Cur w g tabA ⟨0, 0, 0⟩) : Calls Try.prog 9 #[.pointer (some ⟨g, 0, none⟩), .int .i64 2] w fun e w' => e = .returned (.int .i64 2) ∧ Cur w' g tabA ⟨1, 2, 2⟩ ∧ Mod (· = g) w w' ∧ w'.heap.size = w.heap.size :=
  (skip_any g tabA _ 2 w h (fits0 _ (by decide)) (by decide) (by decide) (by decide)).mono fun e w' ⟨he, hc, hm, hs⟩ => ⟨by rw [he]; rfl, hc, hm, hs⟩
theorem s_rest (g : Nat) (w : World) (h : Cur w g tabA ⟨1, 2, 2⟩) : Calls Try.prog 12 #[.pointer (some ⟨g, 0, none⟩)] w fun e w' => e = .returned (.string ⟨#[32, 32, 97]⟩) ∧ Mod (fun _ => False) w w' :=
  (rest_any g tabA _ w h fitsA (by decide)).mono fun e w' ⟨he, hd⟩ => ⟨by rw [he]; rfl, hd⟩
theorem s_column (g : Nat) (w : World) (h : Cur w g tabA ⟨1, 2, 2⟩) : Calls Try.prog 11 #[.pointer (some ⟨g, 0, none⟩)] w fun e w' => e = .returned (.int .i64 2) ∧ w = w' :=
  (column_any g tabA _ w h).mono fun e w' ⟨he, hd⟩ => ⟨by rw [he]; rfl, hd⟩
theorem s_next (g : Nat) (w : World) (h : Cur w g tabA ⟨1, 2, 2⟩) : Calls Try.prog 20 #[.pointer (some ⟨g, 0, none⟩)] w fun e w' => e = .returned (.int .u8 97) ∧ Dr w w' :=
  (nextC_any g tabA _ w h fitsA).mono fun e w' ⟨he, hd⟩ => ⟨by rw [he]; rfl, hd⟩
theorem s_behind (g : Nat) (w : World) (h : Cur w g tabA ⟨1, 2, 2⟩) : Calls Try.prog 13 #[.pointer (some ⟨g, 0, none⟩)] w fun e w' => e = .returned (.string ⟨#[97]⟩) ∧ Dr w w' :=
  (behind_any g tabA _ w h fitsA).mono fun e w' ⟨he, hd⟩ => ⟨by rw [he]; rfl, hd⟩
theorem s_blank (g : Nat) (w : World) (h : Cur w g tabA ⟨1, 2, 2⟩) : Calls Try.prog 18 #[.pointer (some ⟨g, 0, none⟩)] w fun e w' => e = .returned (.bool false) ∧ Dr w w' :=
  (blankC_any g tabA _ w h fitsA).mono fun e w' ⟨he, hd⟩ => ⟨by rw [he]; rfl, hd⟩

set_option maxHeartbeats 800000 in
theorem shown_any (w : World) : Calls Try.prog 7 #[] w fun e w' => e = .returned (.bool true) ∧ Mod (fun _ => False) w w' := by
  go_enter Try.func7, Try.ntmps7
  go_wp2_with fail
  refine (new_any ⟨#[9, 97]⟩ _).mono ?_
  rintro e w1 ⟨rfl, hC, hM, hS⟩
  go_wp2_with fail
  refine (s_indent _ _ hC).mono ?_
  rintro e w2 ⟨rfl, hd⟩
  replace hC := hC.dr hd
  replace hM := hM.trans (hd.mod (S := fun _ => False)) (fun _ h => h.elim)
  clear hd
  go_wp2_with fail
  refine (s_skip _ _ hC).mono ?_
  rintro e w3 ⟨rfl, hC3, hM3, hS3⟩
  replace hM := hM.trans hM3 (fun i h => .inr (by omega))
  clear hM3 hS3 hC
  go_wp2_with fail
  refine (s_rest _ _ hC3).mono ?_
  rintro e w4 ⟨rfl, hM4⟩
  replace hC3 := hC3.mod hM4 (fun h => h)
  replace hM := hM.trans hM4 (fun _ h => h.elim)
  clear hM4
  go_wp2_with fail
  refine (s_column _ _ hC3).mono ?_
  rintro e w5 ⟨rfl, rfl⟩
  go_wp2_with fail
  refine (s_next _ _ hC3).mono ?_
  rintro e w6 ⟨rfl, hd⟩
  replace hC3 := hC3.dr hd
  replace hM := hM.trans (hd.mod (S := fun _ => False)) (fun _ h => h.elim)
  clear hd
  go_wp2_with fail
  refine (s_behind _ _ hC3).mono ?_
  rintro e w7 ⟨rfl, hd⟩
  replace hC3 := hC3.dr hd
  replace hM := hM.trans (hd.mod (S := fun _ => False)) (fun _ h => h.elim)
  clear hd
  go_wp2_with fail
  refine (s_blank _ _ hC3).mono ?_
  rintro e w8 ⟨rfl, hd⟩
  replace hM := hM.trans (hd.mod (S := fun _ => False)) (fun _ h => h.elim)
  clear hd
  go_wp2
  go_ret
  exact ⟨rfl, hM⟩

def s0 : St := ⟨0, 0, 0⟩
theorem ok0 (l : List UInt8) : Ok l s0 := ⟨Nat.zero_le _, by decide, by decide⟩
theorem fits_of {line : ByteArray} {s : St} (h : Ok line.data.toList s) (hl : line.size ≤ 3100) : Fits line s := ⟨by rw [← size_list]; exact h.1, hl, h.2.1⟩
end Go.Proofs.Ytbmflpojcgocaaa
