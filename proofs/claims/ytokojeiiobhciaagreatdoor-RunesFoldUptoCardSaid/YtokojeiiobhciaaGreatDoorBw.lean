/-
  Bytes that the call puts together out of texts.
-/
import Derived.Test.YtokojeiiobhciaaGreatDoorSh
namespace Go.Proofs.YtokojeiiobhciaaGreatDoor
open Go.RowKit Mem
set_option linter.unusedVariables false
set_option linter.unusedSimpArgs false

/-- What has been put together so far: nothing, or a row of the call's own. -/
def Ob (w0 w : World) (v : Value) (l : Bs) : Prop := (v = .slice none 0 0 ∧ l = []) ∨ ∃ g, w0.heap.size ≤ g ∧ Fb w v l g
theorem Ob.mod {w0 w w' : World} {v : Value} {l : Bs} (h : Ob w0 w v l) (hm : Mod (fun _ => False) w w') : Ob w0 w' v l := by
  rcases h with h | ⟨g, hg, cap, cur, hv, hB, hr⟩
  · exact .inl h
  · exact .inr ⟨g, hg, cap, cur, hv, hB.mod hm (fun h => h), hr⟩
theorem Ob.appS {w0 w : World} {v x : Value} {tx : TypeId} {l m : Bs} (h : Ob w0 w v l) (hm : Mod (fun _ => False) w0 w) (hne : m ≠ []) (hl : l.length + m.length ≤ 140737488355328) (hsrc0 : Src Tryz.prog 1 tx x m.length (bts m) w) :
    ∃ a c w', (Builtin.append_ #[22, tx] 22 #[v, x]).run Tryz.prog w = .ok (.slice a (l.length + m.length) c) w' ∧ Ob w0 w' (.slice a (l.length + m.length) c) (l ++ m) ∧ Mod (fun _ => False) w0 w' := by
  obtain ⟨i, hi, hz0, hz1, hz2⟩ := info_parts info_u8
  have ht := Tryz.underlying22
  have hlen : (l ++ m).length = l.length + m.length := List.length_append ..
  have hsrc : Src Tryz.prog i.size tx x m.length (bts m) w := by rw [hz1]; exact hsrc0
  have hm1 : 1 ≤ m.length := List.length_pos_iff.2 hne
  rcases h with ⟨rfl, rfl⟩ | ⟨g, hg, cap, cur, rfl, hB, hlc, hcm, hcs, htk⟩
  · have hrun := run_append_grow_src (P := Tryz.prog) w 22 tx 22 5 i (.int .u8 0) ht hi hz0 none 0 0 []
      (run_firstCells_none w.drew i.size 0 0 0)
      x m.length (bts m) hsrc (by omega) (by omega) (by rw [hz2]; exact growslice_fits (by omega) (by omega))
    have hge := grownCap_ge w (0 + m.length) 0 5
    have hcm2 := grownCap_le_maxLen w (0 + m.length) 0 5 (by unfold maxLen; omega)
    refine ⟨_, _, _, hrun, .inr ⟨w.heap.size, hm.size, _, _, by rw [hlen], Blk.new w.drew _ 5, by simp only [List.nil_append]; omega, hcm2, ?_, ?_⟩, hm.drew.alloc _⟩
    · simp only [Array.size_append, List.size_toArray, size_zeroCells, List.length_append, bts_len, List.length_nil]
      have : (Value.int IntKind.u8 0).cells.size = 1 := rfl
      rw [this]
      omega
    · simp only [Array.toList_append, List.nil_append]
      rw [← bts_len m]
      exact List.take_left
  · by_cases hroom : l.length + m.length ≤ cap
    · have hrun := run_append_room_src (P := Tryz.prog) w 22 tx 22 5 i ht hi g 0 l.length cap x m.length (bts m) hsrc hroom
        (fun j hj => by
          rw [bts_len] at hj
          rw [hB.cell, hz1, Array.getElem?_eq_getElem (by omega)]; rfl)
        (fun j hj => hB.frozen _)
      rw [hz1, Nat.zero_add, Nat.mul_one] at hrun
      refine ⟨_, _, _, hrun, .inr ⟨g, hg, cap, _, by rw [hlen], hB.setCells (bts m) l.length (by rw [bts_len]; omega), by omega, hcm, by rw [spl_size _ _ _ (by rw [bts_len]; omega)]; exact hcs, ?_⟩, hm.trans (Mod.setCells (S := fun k => k = g) _ _ (Mod.refl _ w) (.inl rfl)) (fun k hk => .inr (by rw [hk]; exact hg))⟩
      rw [spl_list, htk, ← bts_app, ← bts_len (l ++ m)]
      exact List.take_left
    · have hrun := run_append_grow_src (P := Tryz.prog) w 22 tx 22 5 i (.int .u8 0) ht hi hz0 (some ⟨g, 0, none⟩) l.length cap (bts l)
        (by
          rw [hz1]
          exact run_firstCells_some w.drew 1 l.length ⟨g, 0, none⟩ l.length cap (bts l) (by rw [bts_len, Nat.mul_one]) (fun j u hu => by
            rw [Addr.add_lit, Nat.zero_add]
            have e1 : w.drew.cell? ⟨g, j, none⟩ = w.cell? ⟨g, j, none⟩ := rfl
            rw [e1, hB.cell]
            have hj : j < l.length := by have := (List.getElem?_eq_some_iff.1 hu).1; rwa [bts_len] at this
            rw [← htk, List.getElem?_take_of_lt hj] at hu
            simpa using hu))
        x m.length (bts m) hsrc (by omega) (by omega) (by rw [hz2]; exact growslice_fits (by omega) (by omega))
      have hge := grownCap_ge w (l.length + m.length) cap 5
      have hcm2 := grownCap_le_maxLen w (l.length + m.length) cap 5 (by unfold maxLen; omega)
      refine ⟨_, _, _, hrun, .inr ⟨w.heap.size, hm.size, _, _, by rw [hlen], Blk.new w.drew _ 5, by rw [hlen]; exact hge, hcm2, ?_, ?_⟩, hm.drew.alloc _⟩
      · simp only [Array.size_append, List.size_toArray, size_zeroCells, List.length_append, bts_len]
        have : (Value.int IntKind.u8 0).cells.size = 1 := rfl
        rw [this]
        omega
      · simp only [Array.toList_append]
        rw [← bts_app, ← bts_len (l ++ m)]
        exact List.take_left
theorem Ob.app {w0 w : World} {v : Value} {l m : Bs} (h : Ob w0 w v l) (hm : Mod (fun _ => False) w0 w) (hne : m ≠ []) (hl : l.length + m.length ≤ 140737488355328) :
    ∃ a c w', (Builtin.append_ #[22, 9] 22 #[v, .string (sv m)]).run Tryz.prog w = .ok (.slice a (l.length + m.length) c) w' ∧ Ob w0 w' (.slice a (l.length + m.length) c) (l ++ m) ∧ Mod (fun _ => False) w0 w' :=
  h.appS hm hne hl (Src.ofString w Tryz.underlying9 (sv m))
theorem Ob.app1 {w0 w : World} {v : Value} {l : Bs} (b : UInt8) (h : Ob w0 w v l) (hm : Mod (fun _ => False) w0 w) (hl : l.length + 1 ≤ 140737488355328) :
    ∃ a c w', (Builtin.append_ #[22, 22] 22 #[v, .slice (some ⟨w.heap.size, 0, none⟩) 1 1]).run Tryz.prog (w.alloc (.cells #[.int .u8 (b.toNat : Int)] 5)) = .ok (.slice a (l.length + 1) c) w' ∧ Ob w0 w' (.slice a (l.length + 1) c) (l ++ [b]) ∧ Mod (fun _ => False) w0 w' :=
  (h.mod ((Mod.refl _ w).alloc _)).appS (m := [b]) (hm.alloc _) (by simp) hl (Src.ofSlice _ Tryz.underlying22 ⟨w.heap.size, 0, none⟩ 1 1 (bts [b]) rfl (fun j u hj => by
    rw [Addr.add_lit, Nat.zero_add, alloc_cell]
    rw [← Array.getElem?_toList]; exact hj) (fun u hu => by
      simp only [bts, List.mem_map] at hu
      obtain ⟨z, _, rfl⟩ := hu
      rfl))
theorem nil_text (w : World) : (convert 22 9 (.slice none 0 0)).run Tryz.prog w = .ok (.string (sv [])) w := by kernel_rfl
/-- The text of these bytes. -/
theorem Ob.text {w0 w : World} {v : Value} {l : Bs} (h : Ob w0 w v l) : (convert 22 9 v).run Tryz.prog w = .ok (.string (sv l)) w := by
  rcases h with ⟨rfl, rfl⟩ | ⟨g, hg, cap, cur, rfl, hB, hlc, hcm, hcs, htk⟩
  · exact nil_text w
  · refine conv_text _ cap l (fun j u hj => ?_)
    rw [Addr.add_lit, Nat.zero_add, hB.cell]
    have hj2 : j < l.length := by have := (List.getElem?_eq_some_iff.1 hj).1; rwa [bts_len] at this
    rw [← htk, List.getElem?_take_of_lt hj2] at hj
    simpa using hj
/-- It is a slice of so many. -/
theorem Ob.val {w0 w : World} {v : Value} {l : Bs} (h : Ob w0 w v l) : ∃ a c, v = .slice a l.length c := by
  rcases h with ⟨rfl, rfl⟩ | ⟨g, hg, cap, cur, rfl, _⟩
  · exact ⟨_, _, rfl⟩
  · exact ⟨_, _, rfl⟩
end Go.Proofs.YtokojeiiobhciaaGreatDoor
