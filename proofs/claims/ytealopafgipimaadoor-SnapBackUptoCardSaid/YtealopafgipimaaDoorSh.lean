/-
  shown.
-/
import Derived.Test.YtealopafgipimaaDoorFa
import Derived.Test.YtealopafgipimaaDoorNb
namespace Go.Proofs.YtealopafgipimaaDoor
open Go.RowKit Mem
set_option linter.unusedVariables false
set_option linter.unusedSimpArgs false

/-- What errors.As looks its own type up by. -/
def ErrT (w : World) : Prop := w.cell? ⟨0, 0, none⟩ = some (.iface 103 (.agg #[.pointer (some ⟨2, 42, none⟩)]))
theorem ErrT.mod {w w' : World} (h : ErrT w) (hm : Mod (fun _ => False) w w') : ErrT w' := cell_keep hm h (fun h => h)
theorem md_then {a b c : World} (h : Mod (fun _ => False) a b) (k : Mod (fun _ => False) b c) : Mod (fun _ => False) a c := h.trans k (fun _ h => h.elim)
theorem md_al {a c : World} {o : Obj} (k : Mod (fun _ => False) (a.alloc o) c) : Mod (fun _ => False) a c := md_then ((Mod.refl _ a).alloc o) k
set_option maxRecDepth 100000 in
set_option maxHeartbeats 3200000 in
theorem shown_any (w : World) (hg : ErrT w) :
    Calls Tryd.prog 7 #[] w fun e w' => e = .returned (.bool true) ∧ Mod (fun _ => False) w w' := by
  have HG := Lib.hid hg
  clear hg
  go_enter Tryd.func7, Tryd.ntmps7
  go_wp2_with (fail)
  refine (enc_nil _).mono ?_
  rintro e w1 ⟨v, rfl, hO, hm1⟩
  have H1 := Lib.hid (And.intro hO hm1)
  clear hO hm1
  go_wp2_with (fail)
  refine (dec_bad w1.heap.size _ (Blk.new _ _ _)).mono ?_
  rintro e w2 ⟨fb, rfl, hF, hm2⟩
  have H2 := Lib.hid (And.intro (H1.out.1.mod (md_al hm2)) (md_then H1.out.2 (md_al hm2)))
  have HF := Lib.hid hF
  clear hF hm2 H1
  go_wp2_with (fail)
  refine (getnum_any ⟨w2.heap.size + 1, 0, none⟩ 3 3 [172, 2, 9] _ rfl (fun j u hj => by
    rw [Addr.add_lit, Nat.zero_add]
    have e : (w2.alloc (Obj.cells #[Value.slice none 0 0, Value.slice none 0 0] 36)).heap.size = w2.heap.size + 1 := by simp
    rw [← e, alloc_cell, ← Array.getElem?_toList]
    exact hj) (by omega) (by decide)).mono ?_
  rw [show gn [172, 2, 9] = (300, 2) by decide]
  rintro e w3 ⟨rfl, rfl⟩
  obtain ⟨w3, h3⟩ : ∃ w3, (w2.alloc (Obj.cells #[Value.slice none 0 0, Value.slice none 0 0] 36)).alloc (Obj.cells #[Value.int IntKind.u8 172, Value.int IntKind.u8 2, Value.int IntKind.u8 9] 5) = w3 := ⟨_, rfl⟩
  have hm3 : Mod (fun _ => False) w2 w3 := by rw [← h3]; exact ((Mod.refl _ w2).alloc _).alloc _
  rw [h3]
  have H3 := Lib.hid (And.intro (md_then H2.out.2 hm3) (And.intro (HF.out.mod hm3 (fun h => h)) (HG.out.mod (md_then H2.out.2 hm3))))
  obtain ⟨a, c, rfl⟩ := H2.out.1.val
  have x1 : (convert 22 9 (.slice a 3 c)).run Tryd.prog w3 = .ok (.string (sv [83, 0, 0])) w3 := (H2.out.1.mod hm3).text
  have t1 : (sv [83, 0, 0]).toList = [83, 0, 0] := sv_toList _
  clear h3 hm3 H2 HF HG
  go_wp2_with (fail)
  refine (fault_hit fb 2 12 w3 H3.out.2.2 H3.out.2.1).mono ?_
  rintro e w4 ⟨rfl, hm4⟩
  have H4 := Lib.hid (md_then H3.out.1 hm4)
  clear hm4 H3 x1
  go_wp2_with (fail)
  refine (puttext_any (some ⟨w4.heap.size, 0, none⟩) 1 1 [1] [97, 98] _ rfl (by omega) (by decide) (.inr ⟨⟨w4.heap.size, 0, none⟩, 1, rfl, fun j u hj => by
    rw [Addr.add_lit, Nat.zero_add, alloc_cell, ← Array.getElem?_toList]
    exact hj⟩)).mono ?_
  rintro e w5 ⟨v5, rfl, hO5, hm5⟩
  have H5 := Lib.hid (md_then H4.out (md_al hm5))
  rw [show [1] ++ pn ([97, 98] : Bs).length ++ [97, 98] = [1, 2, 97, 98] by decide] at hO5
  obtain ⟨a5, c5, rfl⟩ := hO5.val
  have x5 : (convert 22 9 (.slice a5 4 c5)).run Tryd.prog w5 = .ok (.string (sv [1, 2, 97, 98])) w5 := hO5.text
  have t5 : (sv [1, 2, 97, 98]).toList = [1, 2, 97, 98] := sv_toList _
  show _
  simp only [show ([1, 2, 97, 98] : Bs).length = 4 from rfl]
  clear hO5 hm5 H4
  go_wp2_with (fail)
  go_ret
  exact ⟨rfl, H5.out⟩
end Go.Proofs.YtealopafgipimaaDoor
