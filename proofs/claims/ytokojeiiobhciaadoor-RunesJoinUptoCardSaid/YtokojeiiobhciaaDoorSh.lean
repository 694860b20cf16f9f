/-
  shown.
-/
import Derived.Test.YtokojeiiobhciaaDoorCl
import Derived.Test.YtokojeiiobhciaaDoorKd
import Derived.Lib.SlBytesConst
import Derived.Laws.IdiomStrings
namespace Go.Proofs.YtokojeiiobhciaaDoor
open Go.RowKit Mem
set_option linter.unusedVariables false
set_option linter.unusedSimpArgs false

/-- The text of bytes. -/
theorem conv_text {w : World} (a : Addr) (c : Nat) (l : Bs) (hc : ∀ (j : Nat) u, (bts l)[j]? = some u → w.cell? (a.add j) = some u) : (convert 30 9 (.slice (some a) l.length c)).run Tryd.prog w = .ok (.string (sv l)) w := by
  have e0 : (l.map fun b => (b.toNat : Int)).map (Value.int .u8) = bts l := by simp [bts]
  have hl : (loadCells a l.length).run Tryd.prog w = .ok ((l.map fun b => (b.toNat : Int)).map (Value.int .u8)).toArray w := by
    have := run_loadCells_list (P := Tryd.prog) w a (bts l) hc
    rw [bts_len] at this
    rw [e0]; exact this
  rw [run_convert_bytes_string w 30 9 5 _ l.length c Tryd.underlying30 Tryd.underlying5 Tryd.underlying9, run_bytesToString w _ l.length c _ hl, foldl_push_bytes]
  congr 2
  apply ByteArray.ext
  apply Array.toList_inj.1
  simp [ByteArray.empty, ByteArray.emptyWithCapacity, sv]
  exact List.map_id'' (fun b => by simp) l
theorem shown_lines : lnl [97, 13, 10, 98, 10, 10, 99, 13] = [[97], [98], [], [99]] := by decide +kernel
theorem shown_clean : clB (sv [97, 0, 228, 195, 164]) 5 0 = [97, 239, 191, 189, 239, 191, 189, 195, 164] := by decide +kernel
theorem alloc_cell {w : World} {C : Array Value} {t : TypeId} {fz : Nat × Nat} (j : Nat) : (w.alloc (Obj.cells C t fz)).cell? ⟨w.heap.size, j, none⟩ = C[j]? := by
  have h0 : (w.alloc (Obj.cells C t fz)).heap[w.heap.size]? = some (Obj.cells C t fz) := by
    show (w.heap.push _)[w.heap.size]? = _
    simp
  unfold World.cell?
  rw [h0]
  rfl
/-- A text's bytes, laid anew, stay a text. -/
theorem conv_laid {w w' : World} (l : Bs) (c : Nat) (C : Array Value) (fz : Nat × Nat) (hC : ∀ (j : Nat) u, (bts l)[j]? = some u → C[j]? = some u) (hm : Mod (fun _ => False) (w.alloc (Obj.cells C 5 fz)) w') :
    (convert 30 9 (.slice (some ⟨w.heap.size, 0, none⟩) l.length c)).run Tryd.prog w' = .ok (.string (sv l)) w' :=
  conv_text _ c l (fun j u hj => by
    have h := (alloc_cell (w := w) (C := C) (t := 5) (fz := fz) j).trans (hC j u hj)
    rw [Addr.add_lit, Nat.zero_add]
    exact (World.cell?_of_block (w := w.alloc (Obj.cells C 5 fz)) (hm.block _ (World.block_lt_of_cell? _ _ h) (fun h => h))).trans h)
theorem fold_shown (w : World) (hT : Lib.Utf8Tabs 1 2 w) :
    Calls Tryd.prog 15 #[.string labelS] w fun e w' => e = .returned (.string (sv [97, 32, 98])) ∧ Mod (fun _ => False) w w' := by
  have h := fold_any labelS w (by decide) hT (by decide +kernel) (by rw [fold_label]; decide) (by rw [fold_label]; decide +kernel)
  refine h.mono fun e w' ⟨he, hm⟩ => ⟨he.trans ?_, hm⟩
  have := fold_labelB
  unfold foldB at this
  rw [this]
set_option maxRecDepth 100000 in
set_option maxHeartbeats 3200000 in
theorem shown_any (w : World) (hT : Lib.Utf8Tabs 1 2 w) :
    Calls Tryd.prog 7 #[] w fun e w' => e = .returned (.bool true) ∧ Mod (fun _ => False) w w' := by
  have h1 := lines_any [97, 13, 10, 98, 10, 10, 99, 13] (by decide) w
  rw [shown_lines] at h1
  have kc := fun (w : World) (C : Array Value) (n c : Nat) => Lib.run_convert_bytes_const (P := Tryd.prog) w 30 5 C n c Tryd.underlying30 Tryd.underlying5
  have t1 : (sv [97, 239, 191, 189, 239, 191, 189, 195, 164]).toList = [97, 239, 191, 189, 239, 191, 189, 195, 164] := sv_toList _
  have t2 : (sv []).toList = [] := sv_toList _
  have t3 : (sv [99]).toList = [99] := sv_toList _
  have t4 : (sv [97, 32, 98]).toList = [97, 32, 98] := sv_toList _
  go_enter Tryd.func7, Tryd.ntmps7
  go_wp2_with (fail)
  refine h1.mono ?_
  rintro e w1 ⟨v, rfl, ho, hm1⟩
  rcases own_cases ho with ⟨_, h0, _⟩ | ⟨g, cap, cur, rfl, hg, hB, hn, hc, hs, hx⟩
  · cases h0
  have hcell : ∀ (j : Nat) (u : Value), (strs [[97], [98], [], [99]])[j]? = some u → cur[j]? = some u := by
    intro j u hj
    have hj4 : j < 4 := by have := (List.getElem?_eq_some_iff.1 hj).1; simpa [strs] using this
    rw [← hx, List.getElem?_take_of_lt (by simpa using hj4)] at hj
    simpa using hj
  have c2 : w1.cell? ⟨g, 2, none⟩ = some (.string (sv [])) := (hB.cell 2).trans (hcell 2 _ rfl)
  have c3 : w1.cell? ⟨g, 3, none⟩ = some (.string (sv [99])) := (hB.cell 3).trans (hcell 3 _ rfl)
  have hn' : 4 ≤ cap := hn
  have hmx : (4 : Int) ≤ (cap : Int) := by omega
  have H := Lib.hid hm1
  have HC := Lib.hid (And.intro c2 c3)
  clear hm1 c2 c3 hcell hB ho hx h1 hs hc hg
  go_wp2_with (fail)
  have hcl := clean_any (some ⟨w1.heap.size, 0, none⟩) 5 5 [97, 0, 228, 195, 164] (w1.alloc (Obj.cells #[Value.int IntKind.u8 97, Value.int IntKind.u8 0, Value.int IntKind.u8 228, Value.int IntKind.u8 195, Value.int IntKind.u8 164] 5 (5, 6))) (by decide)
    (fun w' hm => conv_laid [97, 0, 228, 195, 164] 5 _ _ (fun j u hj => by rw [← Array.getElem?_toList]; exact hj) hm)
  rw [show ([97, 0, 228, 195, 164] : Bs).length = 5 from rfl, shown_clean] at hcl
  refine hcl.mono ?_
  rintro e w2 ⟨rfl, hm2⟩
  clear hcl
  have H2 := Lib.hid ((H.out.alloc (Obj.cells #[Value.int IntKind.u8 97, Value.int IntKind.u8 0, Value.int IntKind.u8 228, Value.int IntKind.u8 195, Value.int IntKind.u8 164] 5 (5, 6))).trans hm2 (fun _ h => h.elim))
  have hm12 : Mod (fun _ => False) w1 w2 := ((Mod.refl _ w1).alloc _).trans hm2 (fun _ h => h.elim)
  have c2 : w2.cell? ⟨g, 2, none⟩ = some (.string (sv [])) := cell_keep hm12 HC.out.1 (fun h => h)
  have c3 : w2.cell? ⟨g, 3, none⟩ = some (.string (sv [99])) := cell_keep hm12 HC.out.2 (fun h => h)
  clear hm2 hm12 HC H
  go_wp2_with (fail)
  have hT2 := tabs_mod hT H2.out (fun h => h) (fun h => h)
  refine (fold_shown w2 hT2).mono ?_
  rintro e w3 ⟨rfl, hm3⟩
  have H3 := Lib.hid (H2.out.trans hm3 (fun _ h => h.elim))
  clear hm3
  go_wp2_with (fail)
  refine (space_any 12288 (by omega) w3).mono ?_
  rintro e w4 ⟨rfl, q, rfl⟩
  go_wp2_with (fail)
  refine (mark_any 126 (by omega) _).mono ?_
  rintro e w5 ⟨rfl, rfl⟩
  go_wp2_with (fail)
  go_ret
  exact ⟨rfl, H3.out.drewN q⟩
end Go.Proofs.YtokojeiiobhciaaDoor
