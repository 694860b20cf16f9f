/-
  slices.Delete and slices.Insert at grants.
-/
import Derived.Test.YtpbdcjgconopnaaAe
import Derived.Lib.Overlaps
import Derived.Laws.Externs
namespace Go.Proofs.Ytpbdcjgconopnaa
open Go.RowKit Mem
set_option linter.unusedVariables false

theorem info24 : (Try.prog.info? 24).map (fun i => (i.zero, i.size, i.bytes)) = some (some (.agg #[.string ⟨#[]⟩, .string ⟨#[]⟩, .int .i64 0]), 3, 40) := by kernel_rfl

theorem zero24 (w : World) : (zeroValue 24).run Try.prog w = .ok (.agg #[.string ⟨#[]⟩, .string ⟨#[]⟩, .int .i64 0]) w := by kernel_rfl
theorem zeros24 : (Builtin.zeroCells (Value.agg #[.string ⟨#[]⟩, .string ⟨#[]⟩, .int .i64 0]).cells 1).toList = [.string ⟨#[]⟩, .string ⟨#[]⟩, .int .i64 0] := by kernel_rfl
theorem ones24 : ∀ v ∈ [Value.string ⟨#[]⟩, .string ⟨#[]⟩, .int .i64 0], v.oneCell' = true := by
  intro v hv
  simp only [List.mem_cons, List.not_mem_nil, or_false] at hv
  rcases hv with rfl | rfl | rfl <;> rfl

/-- One letter taken out of a row. -/
def Deleted (a i n cap : Nat) (xs : List Value) (w : World) (e : Ending) (w' : World) : Prop :=
  e = .returned (.slice (some ⟨a, 0, none⟩) (n - 1) cap) ∧ Mod (· = a) w w' ∧ w'.heap.size = w.heap.size ∧ ∃ cur, Blk w' a cur 24 ∧ cur.size = cap * 3 ∧ cur.toList.take ((n - 1) * 3) = xs.take (i * 3) ++ xs.drop ((i + 1) * 3)

set_option maxHeartbeats 3200000 in
theorem delete_any (a i n cap : Nat) (cur : Array Value) (xs : List Value) (w : World) (hB : Blk w a cur 24) (hs : cur.size = cap * 3) (hx : cur.toList.take (n * 3) = xs) (hin : i < n) (hn : n ≤ cap) (hc : cap ≤ maxLen) (h1 : ∀ u ∈ xs, u.oneCell' = true) :
    Calls Try.prog 25 #[.slice (some ⟨a, 0, none⟩) n cap, .int .i64 i, .int .i64 ((i : Int) + 1)] w (Deleted a i n cap xs w) := by
  unfold maxLen at hc
  obtain ⟨i24, hi24, hz0, hz1, hz2⟩ := info_parts info24
  obtain ⟨m, rfl⟩ : ∃ m, n = m + 1 := ⟨n - 1, by omega⟩
  have hne : ((i : Int) == (i : Int) + 1) = false := by rw [beq_eq_false_iff_ne]; omega
  obtain ⟨A, hA⟩ : ∃ A : Addr, (if cap = i + 1 then (some ⟨a, 0, none⟩ : Option Addr) else some ⟨a, (i + 1) * 3, none⟩) = some A := by split <;> exact ⟨_, rfl⟩
  have hxl : xs.length = (m + 1) * 3 := by rw [← hx, List.length_take, Array.length_toList, hs]; omega
  have hnews : ∀ j u, (xs.drop ((i + 1) * 3))[j]? = some u → w.drew.cell? (A.add j) = some u := fun j u hu => by
    have hj : (i + 1) * 3 + j < (m + 1) * 3 := by
      rw [List.getElem?_drop] at hu
      have := (List.getElem?_eq_some_iff.1 hu).1
      omega
    have hne' : ¬ cap = i + 1 := by omega
    rw [if_neg hne'] at hA
    obtain rfl := Option.some.inj hA
    rw [Addr.add_lit]
    show w.cell? _ = _
    rw [hB.cell]
    rw [List.getElem?_drop, ← hx, List.getElem?_take_of_lt hj] at hu
    simpa using hu
  have hd0 : (xs.drop ((i + 1) * 3)).length = (m - i) * 3 := by rw [List.length_drop, hxl]; omega
  have hd1 := hd0
  obtain ⟨W1, hW1⟩ : ∃ W1, w.drew.setCells a (0 + i * 3) (xs.drop ((i + 1) * 3)) = W1 := ⟨_, rfl⟩
  have hrun : ∀ ty c, (Builtin.append_ #[22, 22] ty #[.slice (some ⟨a, 0, none⟩) i cap, .slice (some A) (m - i) c]).run Try.prog w.drew = .ok (.slice (some ⟨a, 0, none⟩) m cap) W1 := fun ty c => by
    rw [row_append w.drew 22 ty 24 i24 3 Try.underlying22 hi24 hz1 a 0 i cap cur 24 hB A (m - i) c _ hd1 hnews (fun u hu => h1 u (List.mem_of_mem_drop hu)) (by omega) (by rw [hd0]; omega), hW1]
    congr 2; omega
  have hB1 : Blk W1 a (spl cur (i * 3) (xs.drop ((i + 1) * 3))) 24 := by
    rw [← hW1, Nat.zero_add]
    exact Blk.setCells _ _ (hB.drew) (by rw [hd0]; omega)
  have hsz1 : (spl cur (i * 3) (xs.drop ((i + 1) * 3))).size = cap * 3 := by rw [spl_size _ _ _ (by rw [hd0]; omega), hs]
  have hM1 : Mod (· = a) w W1 := by rw [← hW1]; exact Mod.setCells _ _ ((Mod.refl _ w).drew) (.inl rfl)
  have hS1 : W1.heap.size = w.heap.size := by rw [← hW1, size_setCells]; simp
  have hclr : ∀ ty c, (Builtin.clear_ #[22] ty #[.slice (some ⟨a, m * 3, none⟩) 1 c]).run Try.prog W1 = .ok (.tuple #[]) (W1.setCells a (m * 3) [.string ⟨#[]⟩, .string ⟨#[]⟩, .int .i64 0]) := fun ty c =>
    row_clear W1 22 24 ty (.agg #[.string ⟨#[]⟩, .string ⟨#[]⟩, .int .i64 0]) [.string ⟨#[]⟩, .string ⟨#[]⟩, .int .i64 0] Try.underlying22 zero24 1 c zeros24 ones24 a (m * 3) (by omega) _ 24 hB1 (by rw [hsz1]; show m * 3 + 3 ≤ _; omega)
  have hfin : Deleted a i (m + 1) cap xs w (.returned (.slice (some ⟨a, 0, none⟩) m cap)) (W1.setCells a (m * 3) [.string ⟨#[]⟩, .string ⟨#[]⟩, .int .i64 0]) := by
    refine ⟨rfl, Mod.setCells _ _ hM1 (.inl rfl), by rw [size_setCells, hS1], _, Blk.setCells _ _ hB1 (by rw [hsz1]; show m * 3 + 3 ≤ _; omega), ?_, ?_⟩
    · rw [spl_size _ _ _ (by rw [hsz1]; show m * 3 + 3 ≤ _; omega), hsz1]
    · rw [spl_list, Nat.add_sub_cancel, List.append_assoc, List.take_append_of_le_length (by rw [List.length_take, Array.length_toList, hsz1]; omega), List.take_take, Nat.min_self, spl_list]
      have e1 : cur.toList.take (i * 3) = xs.take (i * 3) := by rw [← hx, List.take_take]; congr 1; omega
      rw [e1, List.take_append_of_le_length (by rw [List.length_append, List.length_take, hd0, hxl]; omega), List.take_of_length_le (by rw [List.length_append, List.length_take, hd0, hxl]; omega)]
  have Hrun := Lib.hid hrun
  have Hfin := Lib.hid hfin
  clear hnews hrun hd0 hd1 hB1 hsz1 hM1 hS1 hfin hW1 hxl hx hs hB h1
  have hq1 : (i : Int) ≤ (cap : Int) := by omega
  have hq2 : (i : Int) + 1 ≤ (m : Int) + 1 := by omega
  have hq3 : (0 : Int) ≤ (i : Int) + 1 := by omega
  have hq4 : ((i : Int) + 1).toNat = i + 1 := by omega
  have hq5 : (m : Int) + 1 ≤ (cap : Int) := by omega
  have hq6 : ¬ cap = m := by omega
  have hq7 : m + 1 - m = 1 := by omega
  go_enter Try.func25, Try.ntmps25
  go_wp2
  refine still_tail 6 (by kernel_rfl) (by kernel_rfl) ?_
  simp only [List.take_succ_cons, List.take_zero, List.drop_succ_cons, List.drop_zero]
  repeat still_step
  refine wpStill_nil ?_
  refine wpList_append_run rfl _ _ 22 22 rfl _ _ rfl rfl (Hrun.out _ _) ?_
  go_wp2
  go_ret
  exact Hfin.out

/-- One letter put into a row that has room. -/
def Inserted (a i n cap : Nat) (xs ys : List Value) (w : World) (e : Ending) (w' : World) : Prop :=
  e = .returned (.slice (some ⟨a, 0, none⟩) (n + 1) cap) ∧ Mod (· = a) w w' ∧ w'.heap.size = w.heap.size ∧ ∃ cur, Blk w' a cur 24 ∧ cur.size = cap * 3 ∧ cur.toList.take ((n + 1) * 3) = xs.take (i * 3) ++ ys ++ xs.drop (i * 3)

theorem size24 : (Try.prog.info? 24).map (·.size) = some 3 := by kernel_rfl
theorem sizeOf24 (w : World) : (Go.sizeOf 24).run Try.prog w = .ok 3 w := by kernel_rfl
theorem Blk.shape {w : World} {g : Nat} {cs : Array Value} {t : TypeId} (h : Blk w g cs t) : w.shape? g = some (t, cs.size) := by
  unfold World.shape?
  rw [show w.heap[g]? = _ from h]

set_option maxHeartbeats 3200000 in
theorem insert_end (a n cap vb : Nat) (cur ysA : Array Value) (xs : List Value) (w : World) (hB : Blk w a cur 24) (hs : cur.size = cap * 3) (hx : cur.toList.take (n * 3) = xs) (hn : n < cap) (hc : cap ≤ maxLen) (hV : Blk w vb ysA 24) (hvs : ysA.size = 3) (h1 : ∀ u ∈ ysA.toList, u.oneCell' = true) :
    Calls Try.prog 26 #[.slice (some ⟨a, 0, none⟩) n cap, .int .i64 n, .slice (some ⟨vb, 0, none⟩) 1 1] w (Inserted a n n cap xs ysA.toList w) := by
  unfold maxLen at hc
  obtain ⟨i24, hi24, hz0, hz1, hz2⟩ := info_parts info24
  have hxl : xs.length = n * 3 := by rw [← hx, List.length_take, Array.length_toList, hs]; omega
  obtain ⟨W1, hW1⟩ : ∃ W1, w.setCells a (0 + n * 3) ysA.toList = W1 := ⟨_, rfl⟩
  have hrun : ∀ ty c, (Builtin.append_ #[22, 22] ty #[.slice (some ⟨a, 0, none⟩) n cap, .slice (some ⟨vb, 0, none⟩) 1 c]).run Try.prog w = .ok (.slice (some ⟨a, 0, none⟩) (n + 1) cap) W1 := fun ty c => by
    rw [row_append w 22 ty 24 i24 3 Try.underlying22 hi24 hz1 a 0 n cap cur 24 hB ⟨vb, 0, none⟩ 1 c ysA.toList (by simp [hvs]) (fun j u hu => by rw [Addr.add_lit, hV.cell]; simpa using hu) h1 (by omega) (by simp [hvs, hs]; omega), hW1]
  have hfin : Inserted a n n cap xs ysA.toList w (.returned (.slice (some ⟨a, 0, none⟩) (n + 1) cap)) W1 := by
    rw [← hW1, Nat.zero_add]
    refine ⟨rfl, Mod.setCells _ _ (Mod.refl _ _) (.inl rfl), by rw [size_setCells], _, Blk.setCells _ _ hB (by simp [hvs, hs]; omega), ?_, ?_⟩
    · rw [spl_size _ _ _ (by simp [hvs, hs]; omega), hs]
    · rw [spl_list, hx, List.take_append_of_le_length (by simp [hvs, hxl]; omega), List.take_of_length_le (by simp [hvs, hxl]; omega), List.take_of_length_le (by simp [hxl]), List.drop_eq_nil_of_le (by simp [hxl]), List.append_nil]
  have Hrun := Lib.hid hrun
  have Hfin := Lib.hid hfin
  clear hrun hfin hW1 hxl hx hs hB hV hvs h1
  have hq1 : (n : Int) ≤ (cap : Int) := by omega
  go_enter Try.func26, Try.ntmps26
  go_wp2_with (at_builtin; refine wpList_append_run rfl _ _ 22 22 rfl _ _ rfl rfl (Hrun.out _ _) ?_)
  go_ret
  exact Hfin.out

set_option maxHeartbeats 3200000 in
theorem insert_mid (a i n cap vb : Nat) (cur ysA : Array Value) (xs : List Value) (w : World) (hB : Blk w a cur 24) (hs : cur.size = cap * 3) (hx : cur.toList.take (n * 3) = xs) (hin : i < n) (hn : n < cap) (hc : cap ≤ maxLen) (h1 : ∀ u ∈ xs, u.oneCell' = true)
    (hV : Blk w vb ysA 24) (hvs : ysA.size = 3) (h2 : ∀ u ∈ ysA.toList, u.oneCell' = true) (hva : vb ≠ a) :
    Calls Try.prog 26 #[.slice (some ⟨a, 0, none⟩) n cap, .int .i64 i, .slice (some ⟨vb, 0, none⟩) 1 1] w (Inserted a i n cap xs ysA.toList w) := by
  unfold maxLen at hc
  obtain ⟨i24, hi24, hz0, hz1, hz2⟩ := info_parts info24
  have hxl : xs.length = n * 3 := by rw [← hx, List.length_take, Array.length_toList, hs]; omega
  have hdl : (xs.drop (i * 3)).length = (n - i) * 3 := by rw [List.length_drop, hxl]; omega
  have hov : ∀ W : World, Blk W vb ysA 24 → Blk W a cur 24 → ∀ lb cb, (callFunc 35 #[.slice (some ⟨vb, 0, none⟩) 1 1, .slice (some ⟨a, (i + 1) * 3, none⟩) lb cb]).run Try.prog W = .ok (.value (.bool false)) W := fun W hV hB lb cb => by
    rw [run_callFunc_extern Try.func35 (by kernel_rfl) (by kernel_rfl) (by kernel_rfl) (e := Extern.SlicesOverlaps.overlaps #[22, 22] #[4]) (by kernel_rfl),
      Lib.run_overlaps_apart W 22 4 24 Try.underlying22 3 sizeOf24 ⟨vb, 0, none⟩ ⟨a, (i + 1) * 3, none⟩ 1 1 lb cb hva 24 24 3 (cap * 3) (by rw [Blk.shape hV, hvs]) (by rw [Blk.shape hB, hs]) (by omega) (hV.frozen _) (hV.frozen _)]
    rfl
  have hov' := hov w hV hB
  obtain ⟨W1, hW1⟩ : ∃ W1, w.drew.setCells a ((i + 1) * 3) (xs.drop (i * 3)) = W1 := ⟨_, rfl⟩
  have hcp1 : ∀ ty dc sc, (Builtin.copy_ #[22, 22] ty #[.slice (some ⟨a, (i + 1) * 3, none⟩) (n - i) dc, .slice (some ⟨a, i * 3, none⟩) (n + 1 - i) sc]).run Try.prog w.drew = .ok (goInt (Nat.min (n + 1 - i) (n - i))) W1 := fun ty dc sc => by
    rw [row_copy w.drew 22 22 ty 24 3 a ((i + 1) * 3) (n - i) dc ⟨a, i * 3, none⟩ (n + 1 - i) sc cur 24 hB (xs.drop (i * 3)) Try.underlying22 size24 (by rw [hdl]; simp only [Nat.min_def]; split <;> omega)
      (fun j v hj => by
        have hj' : i * 3 + j < n * 3 := by
          rw [List.getElem?_drop] at hj
          have := (List.getElem?_eq_some_iff.1 hj).1
          omega
        rw [Addr.add_lit]
        show w.cell? _ = _
        rw [hB.cell]
        rw [List.getElem?_drop, ← hx, List.getElem?_take_of_lt hj'] at hj
        simpa using hj) (by rw [hdl, hs]; omega) (fun v hv => h1 v (List.mem_of_mem_drop hv)), hW1]
  have hB1 : Blk W1 a (spl cur ((i + 1) * 3) (xs.drop (i * 3))) 24 := by rw [← hW1]; exact Blk.setCells _ _ hB.drew (by rw [hdl, hs]; omega)
  have hs1 : (spl cur ((i + 1) * 3) (xs.drop (i * 3))).size = cap * 3 := by rw [spl_size _ _ _ (by rw [hdl, hs]; omega), hs]
  have hV1 : Blk W1 vb ysA 24 := by rw [← hW1]; exact Blk.setCells_far _ hva _ hV.drew
  have hM1 : Mod (· = a) w W1 := by rw [← hW1]; exact Mod.setCells _ _ ((Mod.refl _ w).drew) (.inl rfl)
  have hS1 : W1.heap.size = w.heap.size := by rw [← hW1, size_setCells]; simp
  have hcp2 : ∀ ty dc, (Builtin.copy_ #[22, 22] ty #[.slice (some ⟨a, i * 3, none⟩) (n + 1 - i) dc, .slice (some ⟨vb, 0, none⟩) 1 1]).run Try.prog W1 = .ok (goInt (Nat.min 1 (n + 1 - i))) (W1.setCells a (i * 3) ysA.toList) := fun ty dc =>
    row_copy W1 22 22 ty 24 3 a (i * 3) (n + 1 - i) dc ⟨vb, 0, none⟩ 1 1 _ 24 hB1 ysA.toList Try.underlying22 size24 (by simp only [Nat.min_def, Array.length_toList, hvs]; split <;> omega)
      (fun j u hu => by rw [Addr.add_lit, hV1.cell]; simpa using hu) (by rw [hs1, Array.length_toList, hvs]; omega) h2
  have hfin : Inserted a i n cap xs ysA.toList w (.returned (.slice (some ⟨a, 0, none⟩) (n + 1) cap)) (W1.setCells a (i * 3) ysA.toList) := by
    refine ⟨rfl, Mod.setCells _ _ hM1 (.inl rfl), by rw [size_setCells, hS1], _, Blk.setCells _ _ hB1 (by rw [hs1, Array.length_toList, hvs]; omega), ?_, ?_⟩
    · rw [spl_size _ _ _ (by rw [hs1, Array.length_toList, hvs]; omega), hs1]
    · have e1 : (spl cur ((i + 1) * 3) (xs.drop (i * 3))).toList.take (i * 3) = xs.take (i * 3) := by
        rw [spl_list, List.append_assoc, List.take_append_of_le_length (by rw [List.length_take, Array.length_toList, hs]; omega), List.take_take, ← hx, List.take_take]
        congr 1; omega
      have e2 : (spl cur ((i + 1) * 3) (xs.drop (i * 3))).toList.drop (i * 3 + 3) = xs.drop (i * 3) ++ cur.toList.drop ((i + 1) * 3 + (xs.drop (i * 3)).length) := by
        rw [spl_list, List.append_assoc, List.drop_append, List.drop_eq_nil_of_le (by rw [List.length_take, Array.length_toList, hs]; omega), List.length_take, Array.length_toList, hs, show i * 3 + 3 - min ((i + 1) * 3) (cap * 3) = 0 from by omega]
        simp
      rw [spl_list, e1, Array.length_toList, hvs, e2, ← List.append_assoc, List.take_append_of_le_length (by simp [hvs, hxl, hdl]; omega), List.take_of_length_le (by simp [hvs, hxl, hdl]; omega)]
  have Hcp1 := Lib.hid hcp1
  have Hcp2 := Lib.hid hcp2
  have Hfin := Lib.hid hfin
  clear hov hcp1 hcp2 hfin hB1 hs1 hV1 hM1 hS1 hdl hW1 hxl hx hs hB hV hvs h1 h2
  have hq1 : (i : Int) ≤ (n : Int) := by omega
  have hq2 : ¬ ((i : Int) = (n : Int)) := by omega
  have hq3 : (i : Int) + 1 ≤ (n : Int) + 1 := by omega
  have hq4 : (0 : Int) ≤ (i : Int) + 1 := by omega
  have hq5 : ((i : Int) + 1).toNat = i + 1 := by omega
  have hq6 : (n : Int) + 1 ≤ (cap : Int) := by omega
  have hq7 : ((n : Int) + 1).toNat = n + 1 := by omega
  have hq8 : (0 : Int) ≤ (n : Int) + 1 := by omega
  have hq9 : ¬ cap = i + 1 := by omega
  have hq10 : ¬ cap = i := by omega
  have hq11 : (i : Int) ≤ (n : Int) + 1 := by omega
  have hw1 : IntKind.i64.wrap ((i : Int) + 1) = (i : Int) + 1 := by rw [IntKind.wrap_i64]; omega
  have hw2 : IntKind.i64.wrap ((n : Int) + 1) = (n : Int) + 1 := by rw [IntKind.wrap_i64]; omega
  go_enter Try.func26, Try.ntmps26
  go_wp2_with (simp only [hov'])
  refine still_tail 8 (by kernel_rfl) (by kernel_rfl) ?_
  simp only [List.take_succ_cons, List.take_zero, List.drop_succ_cons, List.drop_zero]
  repeat still_step
  refine wpStill_nil ?_
  refine wpList_copy_run rfl _ _ 22 22 rfl _ _ rfl rfl (Hcp1.out _ _ _) ?_
  go_wp2
  rw [Hcp2.out]
  go_wp2
  go_ret
  exact Hfin.out
end Go.Proofs.Ytpbdcjgconopnaa
