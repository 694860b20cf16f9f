/-
  What Clean makes of bytes, by their characters. No walk in sight.
-/
import Derived.Test.YtokojeiiobhciaaGreatDoorSh
import Derived.Test.YtokojeiiobhciaaGreatDoorPf
namespace Go.Proofs.YtokojeiiobhciaaGreatDoor
set_option linter.unusedVariables false
set_option linter.unusedSimpArgs false

def clN (r : Nat) : Nat := if r = 0 then 65533 else r
theorem clI_N (r : Nat) : clI (r : Int) = (clN r : Int) := by
  unfold clI clN
  by_cases h : r = 0
  · rw [if_pos h, if_pos (by omega)]; rfl
  · rw [if_neg h, if_neg (by omega)]
/-- Clean, by characters. -/
def cleanM (L : List Nat) : Bs := L.flatMap fun r => enc (clN r)
theorem clB_rs (l : Bs) : ∀ (f p : Nat), l.length ≤ p + f → clB (sv l) f p = cleanM (rs (l.drop p))
  | 0, p, h => by rw [List.drop_eq_nil_of_le (by omega)]; rfl
  | f + 1, p, h => by
    unfold clB
    by_cases hp : p < (sv l).size
    · have hp' : p < l.length := hp
      have hne : l.drop p ≠ [] := by intro e; have := congrArg List.length e; rw [List.length_drop] at this; simp at this; omega
      have hd : Lib.decodeL (l.drop p) = Utf8.decode (sv l) p := Lib.decodeL_drop (sv l) p
      have hw := Lib.decodeL_width (l.drop p)
      rw [if_pos hp, rs_step _ hne, hd, List.drop_drop, clB_rs l f _ (by rw [← hd]; omega), clI_N]
      rfl
    · have hp' : ¬ p < l.length := hp
      rw [if_neg hp, List.drop_eq_nil_of_le (by omega)]
      rfl
theorem clB_eq (l : Bs) : clB (sv l) l.length 0 = cleanM (rs l) := by rw [clB_rs l _ _ (by omega), List.drop_zero]
/-- Characters that are none of those that are turned stay. -/
theorem clean_encs (L : List Nat) (h : ∀ r ∈ L, vr r ∧ r ≠ 0) : cleanM (rs (L.flatMap enc)) = L.flatMap enc := by
  have := rs_encs L (fun r hr => (h r hr).1) []
  rw [List.append_nil, rs_nil, List.append_nil] at this
  rw [this]
  exact flat_congr _ _ _ (fun r hr => by rw [clN, if_neg (h r hr).2])
theorem cleanM_map (L : List Nat) : cleanM L = (L.map clN).flatMap enc := by unfold cleanM; rw [List.flatMap_map]
theorem clN_good (r : Nat) (h : vr r) : vr (clN r) ∧ clN r ≠ 0 := by
  unfold clN
  split
  · exact ⟨by unfold vr; omega, by omega⟩
  · next h0 => exact ⟨h, h0⟩
theorem rs_clean (l : Bs) : rs (cleanM (rs l)) = (rs l).map clN := by
  have := rs_encs ((rs l).map clN) (fun r hr => by obtain ⟨x, hx, rfl⟩ := List.mem_map.1 hr; exact (clN_good x (rs_vr _ l (Nat.le_refl _) x hx)).1) []
  rw [List.append_nil, rs_nil, List.append_nil] at this
  rw [cleanM_map]; exact this
theorem clean_again (l : Bs) : cleanM (rs (cleanM (rs l))) = cleanM (rs l) := by
  rw [rs_clean, cleanM_map, cleanM_map]
  rw [List.map_map]
  congr 1
  apply List.map_congr_left
  intro r hr
  show clN (clN r) = clN r
  unfold clN
  split <;> simp_all
theorem rs_len : ∀ (n : Nat) (l : Bs), l.length ≤ n → (rs l).length ≤ l.length
  | 0, l, h => by
    have : l = [] := List.eq_nil_of_length_eq_zero (by omega)
    subst this; exact Nat.le_refl _
  | n + 1, l, h => by
    by_cases hne : l = []
    · subst hne; exact Nat.le_refl _
    · have hw := Lib.decodeL_width l
      have hl : 0 < l.length := List.length_pos_iff.2 hne
      rw [rs_step l hne, List.length_cons]
      have := rs_len n (l.drop (Lib.decodeL l).2) (by rw [List.length_drop]; omega)
      rw [List.length_drop] at this
      omega
theorem encs_len : ∀ L : List Nat, (L.flatMap enc).length ≤ 4 * L.length
  | [] => Nat.le_refl _
  | r :: L => by
    have h1 := encs_len L
    have h2 : (enc r).length ≤ 4 := by
      unfold enc Lib.encodeRune
      rw [List.length_map]
      exact (Lib.encodeRuneZ_length (r : Int)).2
    rw [List.flatMap_cons, List.length_append, List.length_cons]
    omega
theorem cleanM_len (l : Bs) : (cleanM (rs l)).length ≤ 4 * l.length := by
  rw [cleanM_map]
  have h1 := encs_len ((rs l).map clN)
  have h2 := rs_len _ l (Nat.le_refl _)
  rw [List.length_map] at h1
  omega
open Go.RowKit Mem in
/-- Clean of a text's bytes. -/
theorem clean_text (S : Bs) (hS : S.length ≤ 1000000000000) (w : World) (c : Nat) (fz : Nat × Nat) :
    Calls Tryz.prog 7 #[.slice (some ⟨w.heap.size, 0, none⟩) S.length c] (w.alloc (Obj.cells (bytesRow (sv S) c) 5 fz)).drew fun e w' => e = .returned (.string (sv (clB (sv S) S.length 0))) ∧ Mod (fun _ => False) w w' := by
  refine (clean_any (some ⟨w.heap.size, 0, none⟩) S.length c S _ hS (fun w' hm => conv_laid S c _ fz (fun j u hj => ?_) hm.undrew)).mono fun e w' ⟨he, hm⟩ => ⟨he, ((Mod.refl _ w).alloc _).drew.trans hm (fun _ h => h.elim)⟩
  have hq : j < S.length := by have := (List.getElem?_eq_some_iff.1 hj).1; rwa [bts_len] at this
  have hq2 : j < (sv S).size := hq
  have hq3 : j < (sv S).data.size := hq
  simp [bts, bytesRow, Array.getElem?_append, hq2] at hj ⊢
  obtain ⟨a, ha, hu⟩ := hj
  have e := (List.getElem?_eq_some_iff.1 ha).2
  rw [← hu, ← e]
  rfl
end Go.Proofs.YtokojeiiobhciaaGreatDoor
