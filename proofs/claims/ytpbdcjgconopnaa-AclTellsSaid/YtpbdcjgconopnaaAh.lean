/-
  slices.Insert at grants, with and without room.
-/
import Derived.Test.YtpbdcjgconopnaaAg
namespace Go.Proofs.Ytpbdcjgconopnaa
open Go.RowKit Mem
set_option linter.unusedVariables false

/-- A row with one grant more. -/
def Ins (B i n : Nat) (a : Nat) (xs ys : List Value) (w : World) (e : Ending) (w' : World) : Prop :=
  ∃ A c, e = .returned (.slice A (n + 1) c) ∧ w'.ownsRow B 24 3 (.slice A (n + 1) c) (n + 1) (xs.take (i * 3) ++ ys ++ xs.drop (i * 3)) ∧ Mod (fun b => b = a) w w'
theorem ins_of {B i n a cap : Nat} {xs ys : List Value} {w w' : World} {e : Ending} (h : Inserted a i n cap xs ys w e w') (hB : B ≤ a) (hn : n < cap) (hc : cap ≤ maxLen) : Ins B i n a xs ys w e w' := by
  obtain ⟨he, hm, _, cur, hb, hs, hx⟩ := h
  exact ⟨_, _, he, own_of hb hB (by omega) hc hs hx, hm⟩
set_option maxHeartbeats 1600000 in
theorem insert_new (B a n vb : Nat) (cur ysA : Array Value) (xs : List Value) (w : World) (hB : Blk w a cur 24) (hBa : B ≤ a) (hs : cur.size = n * 3) (hx : cur.toList.take (n * 3) = xs) (hn : n ≤ 1000) (hV : Blk w vb ysA 24) (hvs : ysA.size = 3) (h1 : ∀ u ∈ ysA.toList, u.oneCell' = true) (hBw : B ≤ w.heap.size) :
    Calls Try.prog 26 #[.slice (some ⟨a, 0, none⟩) n n, .int .i64 n, .slice (some ⟨vb, 0, none⟩) 1 1] w (Ins B n n a xs ysA.toList w) := by
  have hown : w.ownsRow B 24 3 (.slice (some ⟨a, 0, none⟩) n n) n xs := own_of hB hBa (Nat.le_refl _) (by unfold maxLen; omega) hs hx
  obtain ⟨A, k, w', hr, ho, hm, _, _⟩ := el24.app1 B n _ xs w hown vb ysA 1 hV hvs (by unfold maxLen; omega) (by omega) h1 hBw
  have hxl := hown.1
  have hfin : Ins B n n a xs ysA.toList w (.returned (.slice A (n + 1) k)) w' := ⟨A, k, rfl, by
    rw [List.take_of_length_le (by omega), List.drop_eq_nil_of_le (by omega), List.append_nil]; exact ho, hm.mono (fun b hb => by simpa [Value.ownBlock, eq_comm] using hb)⟩
  have Hfin := Lib.hid hfin
  clear hfin hown ho hm hxl hx hs hB hV hvs h1
  go_enter Try.func26, Try.ntmps26
  go_wp2_with (at_builtin; refine wpList_append_run rfl _ _ 22 22 rfl _ _ rfl rfl hr ?_)
  go_ret
  exact Hfin.out

set_option maxRecDepth 100000 in
set_option maxHeartbeats 3200000 in
theorem insert_grow (B a i n vb : Nat) (cur ysA : Array Value) (xs : List Value) (w : World) (hB : Blk w a cur 24) (hBa : B ≤ a) (hs : cur.size = n * 3) (hx : cur.toList.take (n * 3) = xs) (hin : i < n) (hn : n ≤ 1000) (h1 : ∀ u ∈ xs, u.oneCell' = true) (hV : Blk w vb ysA 24) (hvs : ysA.size = 3) (h2 : ∀ u ∈ ysA.toList, u.oneCell' = true) (hBw : B ≤ w.heap.size) :
    Calls Try.prog 26 #[.slice (some ⟨a, 0, none⟩) n n, .int .i64 i, .slice (some ⟨vb, 0, none⟩) 1 1] w (Ins B i n a xs ysA.toList w) := by
  obtain ⟨i24, hi24, hz0, hz1, hz2⟩ := info_parts info24
  have hown : w.ownsRow B 24 3 (.slice (some ⟨a, 0, none⟩) n n) n xs := own_of hB hBa (Nat.le_refl _) (by unfold maxLen; omega) hs hx
  have hxl := hown.1
  have hyl : ysA.toList.length = 3 := by simp [hvs]
  obtain ⟨_, _, _, _, hrow, _⟩ := row_at hown
  obtain ⟨k, hk⟩ : ∃ k, n + 1 - i = k + 1 := ⟨n - i, by omega⟩
  have hold : (Builtin.firstCells i24.size i (.slice (some ⟨a, 0, none⟩) i n)).run Try.prog w.drew = .ok (xs.take (i * 3)).toArray w.drew := by
    refine run_firstCells_some _ _ _ _ _ _ _ (by rw [List.length_take, hz1]; omega) (fun j v hj => ?_)
    have hj' := (List.getElem?_eq_some_iff.1 hj).1
    rw [List.getElem?_take_of_lt (by rw [List.length_take] at hj'; omega)] at hj
    rw [Addr.add_lit, Nat.zero_add]
    exact hrow j v hj
  have hrun := Lib.run_append_grow_zeros (P := Try.prog) w 22 3 22 24 i24 _ .i64 .i64 Try.underlying22 Try.underlying3 hi24 hz0 (some ⟨a, 0, none⟩) i n _ hold (k + 1) (by omega) (by rw [hz1]; omega) (by omega) (by omega) (by rw [hz2]; omega) (growslice_fits (by omega) (by rw [hz2]; omega))
  have hin1 : i + (k + 1) = n + 1 := by omega
  have hki : ((k + 1 : Nat) : Int) = (n : Int) + 1 - (i : Int) := by omega
  rw [hin1, hki] at hrun
  have hcg := grownCap_ge w (n + 1) n 24
  have hcm := grownCap_le_maxLen w (n + 1) n 24 (by unfold maxLen; omega)
  generalize grownCap w (n + 1) n 24 = C at *
  have hzc : ∀ m, (Builtin.zeroCells (Value.agg #[.string ⟨#[]⟩, .string ⟨#[]⟩, .int .i64 0]).cells m).size = m * 3 := fun m => size_zeroCells _ m
  obtain ⟨cur0, hcur0⟩ : ∃ cur0, ((xs.take (i * 3)).toArray ++ Builtin.zeroCells (Value.agg #[.string ⟨#[]⟩, .string ⟨#[]⟩, .int .i64 0]).cells (k + 1) ++ Builtin.zeroCells (Value.agg #[.string ⟨#[]⟩, .string ⟨#[]⟩, .int .i64 0]).cells (C - (n + 1))) = cur0 := ⟨_, rfl⟩
  rw [hcur0] at hrun
  have hs0 : cur0.size = C * 3 := by rw [← hcur0]; simp only [Array.size_append, hzc, List.size_toArray, List.length_take]; omega
  have ht0 : cur0.toList.take (i * 3) = xs.take (i * 3) := by
    rw [← hcur0, Array.toList_append, Array.toList_append, List.append_assoc, List.take_append_of_le_length (by simp; omega), List.take_of_length_le (by simp; omega)]
  obtain ⟨W1, hW1⟩ : ∃ W1, w.drew.alloc (.cells cur0 24) = W1 := ⟨_, rfl⟩
  rw [hW1] at hrun
  have hB1 : Blk W1 w.heap.size cur0 24 := by rw [← hW1]; exact Blk.new w.drew cur0 24
  have hM1 : Mod (fun _ => False) w W1 := by rw [← hW1]; exact ((Mod.refl _ _).drew).alloc _
  have hval : vb < w.heap.size := Blk.lt hV
  have haw : a < w.heap.size := Blk.lt hB
  have hV1 : Blk W1 vb ysA 24 := hV.mod hM1 (by simp)
  have hA1 : Blk W1 a cur 24 := hB.mod hM1 (by simp)
  obtain ⟨W2, hW2⟩ : ∃ W2, W1.setCells w.heap.size (i * 3) ysA.toList = W2 := ⟨_, rfl⟩
  have hcp1 : ∀ ty dc, (Builtin.copy_ #[22, 22] ty #[.slice (some ⟨w.heap.size, i * 3, none⟩) (n + 1 - i) dc, .slice (some ⟨vb, 0, none⟩) 1 1]).run Try.prog W1 = .ok (goInt (Nat.min 1 (n + 1 - i))) W2 := fun ty dc => by
    rw [← hW2]
    exact row_copy W1 22 22 ty 24 3 w.heap.size (i * 3) (n + 1 - i) dc ⟨vb, 0, none⟩ 1 1 _ 24 hB1 ysA.toList Try.underlying22 size24 (by simp only [Nat.min_def, Array.length_toList, hvs]; split <;> omega)
      (fun j u hu => by rw [Addr.add_lit, hV1.cell]; simpa using hu) (by rw [hs0, Array.length_toList, hvs]; omega) h2
  have hB2 : Blk W2 w.heap.size (spl cur0 (i * 3) ysA.toList) 24 := by rw [← hW2]; exact Blk.setCells _ _ hB1 (by rw [Array.length_toList, hvs, hs0]; omega)
  have hs2 : (spl cur0 (i * 3) ysA.toList).size = C * 3 := by rw [spl_size _ _ _ (by rw [Array.length_toList, hvs, hs0]; omega), hs0]
  have hA2 : Blk W2 a cur 24 := by rw [← hW2]; exact Blk.setCells_far _ (by omega) _ hA1
  have hM2 : Mod (fun _ => False) w W2 := by rw [← hW2]; exact Mod.setCells _ _ hM1 (.inr (Nat.le_refl _))
  have hdl : (xs.drop (i * 3)).length = (n - i) * 3 := by rw [List.length_drop, hxl]; omega
  obtain ⟨W3, hW3⟩ : ∃ W3, W2.drew.setCells w.heap.size ((i + 1) * 3) (xs.drop (i * 3)) = W3 := ⟨_, rfl⟩
  have hcp2 : ∀ ty dc sc, (Builtin.copy_ #[22, 22] ty #[.slice (some ⟨w.heap.size, (i + 1) * 3, none⟩) (n - i) dc, .slice (some ⟨a, i * 3, none⟩) (n - i) sc]).run Try.prog W2.drew = .ok (goInt (Nat.min (n - i) (n - i))) W3 := fun ty dc sc => by
    rw [← hW3]
    exact row_copy W2.drew 22 22 ty 24 3 w.heap.size ((i + 1) * 3) (n - i) dc ⟨a, i * 3, none⟩ (n - i) sc _ 24 hB2.drew (xs.drop (i * 3)) Try.underlying22 size24 (by rw [hdl]; simp only [Nat.min_def]; split <;> omega)
      (fun j v hj => by
        have hj' : i * 3 + j < n * 3 := by
          rw [List.getElem?_drop] at hj
          have := (List.getElem?_eq_some_iff.1 hj).1
          omega
        rw [Addr.add_lit]
        show W2.cell? _ = _
        rw [hA2.cell]
        rw [List.getElem?_drop, ← hx, List.getElem?_take_of_lt hj'] at hj
        simpa using hj) (by rw [hdl, hs2]; omega) (fun v hv => h1 v (List.mem_of_mem_drop hv))
  have hfin : Ins B i n a xs ysA.toList w (.returned (.slice (some ⟨w.heap.size, 0, none⟩) (n + 1) C)) W3 := by
    refine ⟨_, _, rfl, ?_, ?_⟩
    · rw [← hW3]
      refine own_of (Blk.setCells _ _ hB2.drew (by rw [hdl, hs2]; omega)) hBw hcg hcm (by rw [spl_size _ _ _ (by rw [hdl, hs2]; omega), hs2]) ?_
      have e1 : (spl cur0 (i * 3) ysA.toList).toList.take ((i + 1) * 3) = xs.take (i * 3) ++ ysA.toList := by
        rw [spl_list, List.take_append_of_le_length (by rw [List.length_append, List.length_take, Array.length_toList, Array.length_toList, hs0, hvs]; omega), ht0, List.take_of_length_le (by rw [List.length_append, List.length_take, hyl, hxl]; omega)]
      rw [spl_list, e1, List.take_append_of_le_length (by rw [List.length_append, List.length_append, List.length_take, hdl, hyl, hxl]; omega), List.take_of_length_le (by rw [List.length_append, List.length_append, List.length_take, hdl, hyl, hxl]; omega)]
    · rw [← hW3]
      exact (Mod.setCells _ _ hM2.drew (.inr (Nat.le_refl _))).mono (fun _ h => h.elim)
  have hgz : ¬ (n + 1 ≤ n) := by omega
  have Hrun := Lib.hid hrun
  have Hcp1 := Lib.hid hcp1
  have Hcp2 := Lib.hid hcp2
  have Hfin := Lib.hid hfin
  clear hk hki hin1 hyl hrun hcp1 hcp2 hfin hB2 hs2 hA2 hM2 hB1 hs0 ht0 hM1 hV1 hA1 hdl hW1 hW2 hW3 hcur0 hxl hx hs hB hV hvs h1 h2 hzc hown hrow hold
  have hq1 : (i : Int) ≤ (n : Int) := by omega
  have hq2 : ¬ ((i : Int) = (n : Int)) := by omega
  have hq3 : ¬ C = i + 1 := by omega
  have hq4 : ¬ C = i := by omega
  have hq5 : ¬ n = i := by omega
  have hq6 : (i : Int) + 1 ≤ (n : Int) + 1 := by omega
  have hw1 : IntKind.i64.wrap ((i : Int) + 1) = (i : Int) + 1 := by rw [IntKind.wrap_i64]; omega
  have hq7 : ((i : Int) + 1).toNat = i + 1 := by omega
  have hq8 : (0 : Int) ≤ (i : Int) + 1 := by omega
  have hq9 : n + 1 - (i + 1) = n - i := by omega
  go_enter Try.func26, Try.ntmps26
  go_wp2_with (at_builtin; refine wpList_append_run rfl _ _ 22 3 rfl _ _ rfl rfl Hrun.out ?_)
  rw [Hcp1.out]
  go_wp2
  refine still_tail 8 (by kernel_rfl) (by kernel_rfl) ?_
  simp only [List.take_succ_cons, List.take_zero, List.drop_succ_cons, List.drop_zero]
  repeat still_step
  refine wpStill_nil ?_
  refine wpList_copy_run rfl _ _ 22 22 rfl _ _ rfl rfl (Hcp2.out _ _ _) ?_
  go_wp2
  go_ret
  exact Hfin.out
set_option maxHeartbeats 1600000 in
theorem insert_none (B vb : Nat) (ysA : Array Value) (w : World) (hV : Blk w vb ysA 24) (hvs : ysA.size = 3) (h1 : ∀ u ∈ ysA.toList, u.oneCell' = true) (hBw : B ≤ w.heap.size) :
    Calls Try.prog 26 #[.slice none 0 0, .int .i64 0, .slice (some ⟨vb, 0, none⟩) 1 1] w (fun e w' => ∃ A c, e = .returned (.slice A 1 c) ∧ w'.ownsRow B 24 3 (.slice A 1 c) 1 ysA.toList ∧ Mod (fun _ => False) w w') := by
  obtain ⟨A, k, w', hr, ho, hm, _, _⟩ := el24.app1 B 0 _ [] w (World.ownsRow_nil _ _ _ _) vb ysA 1 hV hvs (by unfold maxLen; omega) (by omega) h1 hBw
  have hfin : ∃ A' c, Ending.returned (.slice A 1 k) = .returned (.slice A' 1 c) ∧ w'.ownsRow B 24 3 (.slice A' 1 c) 1 ysA.toList ∧ Mod (fun _ => False) w w' := ⟨A, k, rfl, ho, hm.mono (fun b hb => by simp [Value.ownBlock] at hb)⟩
  have Hfin := Lib.hid hfin
  clear hfin ho hm hV hvs h1
  go_enter Try.func26, Try.ntmps26
  go_wp2_with (at_builtin; refine wpList_append_run rfl _ _ 22 22 rfl _ _ rfl rfl hr ?_)
  go_ret
  exact Hfin.out

/-- Insert, whatever room there is. -/
theorem insert_any (B a i n cap vb : Nat) (cur ysA : Array Value) (xs : List Value) (w : World) (hB : Blk w a cur 24) (hBa : B ≤ a) (hs : cur.size = cap * 3) (hx : cur.toList.take (n * 3) = xs) (hin : i ≤ n) (hnc : n ≤ cap) (hc : cap ≤ maxLen) (hn : n ≤ 1000) (h1 : ∀ u ∈ xs, u.oneCell' = true) (hV : Blk w vb ysA 24) (hvs : ysA.size = 3) (h2 : ∀ u ∈ ysA.toList, u.oneCell' = true) (hva : vb ≠ a) (hBw : B ≤ w.heap.size) :
    Calls Try.prog 26 #[.slice (some ⟨a, 0, none⟩) n cap, .int .i64 i, .slice (some ⟨vb, 0, none⟩) 1 1] w (Ins B i n a xs ysA.toList w) := by
  by_cases hcn : n < cap
  · by_cases hi : i < n
    · exact (insert_mid a i n cap vb cur ysA xs w hB hs hx hi hcn hc h1 hV hvs h2 hva).mono (fun _ _ h => ins_of h hBa hcn hc)
    · obtain rfl : i = n := by omega
      exact (insert_end a i cap vb cur ysA xs w hB hs hx hcn hc hV hvs h2).mono (fun _ _ h => ins_of h hBa hcn hc)
  · obtain rfl : cap = n := by omega
    by_cases hi : i < cap
    · exact insert_grow B a i cap vb cur ysA xs w hB hBa hs hx hi hn h1 hV hvs h2 hBw
    · obtain rfl : i = cap := by omega
      exact insert_new B a i vb cur ysA xs w hB hBa hs hx hn hV hvs h2 hBw
end Go.Proofs.Ytpbdcjgconopnaa
