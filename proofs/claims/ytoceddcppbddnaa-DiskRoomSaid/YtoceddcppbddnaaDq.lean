/-
  Remove, Cut and Rename: the calls.
-/
import Derived.Test.YtoceddcppbddnaaDp
namespace Go.Proofs.Ytoceddcppbddnaa
open Go.RowKit Mem Go.Maps
set_option linter.unusedVariables false
set_option linter.unusedSimpArgs false

theorem new_cell (w : World) (v : Value) (T : TypeId) : (w.alloc (.cells #[v] T)).cell? ⟨w.heap.size, 0, none⟩ = some v := (Blk.new w #[v] T).cell 0
theorem new_size (w : World) (o : Obj) : (w.alloc o).heap.size = w.heap.size + 1 := by simp
/-- A block that is not the disk's stays so. -/
theorem Done.far {w w' : World} {d : Nat} {X X' : Dk} (h : Done w w' d X X') {g : Nat} (hg : ¬ Foot d X g) (hl : g < w.heap.size) : ¬ Foot d X' g := fun hf => (h.f g hf).elim hg (fun h1 => by omega)
theorem alloc_keep {w : World} {p : Addr} {v : Value} (h : w.cell? p = some v) (o : Obj) : (w.alloc o).cell? p = some v := cell_keep ((Mod.refl (fun _ => False) w).alloc o) h (fun h => h)
set_option maxRecDepth 100000 in
set_option maxHeartbeats 1600000 in
theorem remove_any (w : World) (d : Nat) (X : Dk) (n : Bs) (h : At w d X) (hn : n.length ≤ maxLen) (hfl : X.falls < 1000000) : Calls Try.prog 19 #[.pointer (some ⟨d, 0, none⟩), .string (sv n)] w fun e w' => Said w w' d X (removeA (abs X) n) e := by
  have H := Lib.hid h
  have eo : (abs X).off = X.off := rfl
  obtain ⟨off, hoff⟩ : ∃ o, X.off = o := ⟨_, rfl⟩
  obtain ⟨o, ho⟩ : ∃ o, fndF X.L n = o := ⟨_, rfl⟩
  have hV : ofV X n = ofVal off o := by unfold ofV; rw [hoff, ho]
  have hg := abs_get X n
  rw [ho] at hg
  have hm0 : Mod (fun _ => False) w ((w.alloc (.cells #[.pointer (some ⟨d, 0, none⟩)] 25)).alloc (.cells #[.string (sv n)] 9)) := (((Mod.refl _ _).alloc _).alloc _)
  have b0 : (((w.alloc (.cells #[.pointer (some ⟨d, 0, none⟩)] 25)).alloc (.cells #[.string (sv n)] 9))).cell? ⟨w.heap.size, 0, none⟩ = some (.pointer (some ⟨d, 0, none⟩)) := by
    have := (alloc_keep (new_cell w (.pointer (some ⟨d, 0, none⟩)) 25) (.cells #[.string (sv n)] 9))
    exact this
  have b1 : (((w.alloc (.cells #[.pointer (some ⟨d, 0, none⟩)] 25)).alloc (.cells #[.string (sv n)] 9))).cell? ⟨w.heap.size + 1, 0, none⟩ = some (.string (sv n)) := by
    have := new_cell (w.alloc (.cells #[.pointer (some ⟨d, 0, none⟩)] 25)) (.string (sv n)) 9
    simp only [new_size] at this
    exact this
  have hAt := h.still hm0
  cases off with
  | true =>
    have HA : Hid (removeA (abs X) n = (abs X, 13)) := Lib.hid (by unfold removeA ofA; rw [eo, hoff]; rfl)
    have hof := of_v hAt hn (v := .tuple #[.pointer none, .int .i64 13]) hV
    have HD0 := Lib.hid (Done.still H.out hm0)
    clear h hoff ho hV hg hAt hm0 b0 b1
    go_enter Try.func19, Try.ntmps19
    go_wp2_with (fail)
    refine hof.mono ?_
    rintro e w' ⟨rfl, rfl⟩
    go_wp2
    go_ret
    rw [HA.out]
    exact ⟨X, rfl, rfl, HD0.out⟩
  | false =>
    cases o with
    | none =>
      have HA : Hid (removeA (abs X) n = (abs X, 15)) := Lib.hid (by unfold removeA ofA; rw [eo, hoff, hg]; rfl)
      have hof := of_v hAt hn (v := .tuple #[.pointer none, .int .i64 15]) hV
      have HD0 := Lib.hid (Done.still H.out hm0)
      clear h hoff ho hV hg hAt hm0 b0 b1
      go_enter Try.func19, Try.ntmps19
      go_wp2_with (fail)
      refine hof.mono ?_
      rintro e w' ⟨rfl, rfl⟩
      go_wp2
      go_ret
      rw [HA.out]
      exact ⟨X, rfl, rfl, HD0.out⟩
    | some f =>
      have HA : Hid (removeA (abs X) n = deedA (abs X) fun A => withFs A (delA A.fs n)) := Lib.hid (by unfold removeA ofA; rw [eo, hoff, hg]; rfl)
      have hof := of_v hAt hn (v := .tuple #[.pointer (some ⟨f.g, 0, none⟩), .int .i64 0]) hV
      have HD0 := Lib.hid (Done.still H.out hm0)
      have HB0 := Lib.hid b0
      have HB1 := Lib.hid b1
      clear h hoff ho hV hg hAt hm0 b0 b1
      go_enter Try.func19, Try.ntmps19
      go_wp2_with (fail)
      refine hof.mono ?_
      rintro e w' ⟨rfl, rfl⟩
      go_wp2_with (fail)
      refine (deed_said _ d X 34 _ (fun A => withFs A (delA A.fs n)) HD0.out.a hfl (enter34 _) (fun w1 h1 => ?_)).mono ?_
      · refine (remove_do w1 d (tick X) n _ _ h1.a hn (far_cell h1 HB0.out (fun hf => by have := H.out.lt hf; first | omega | (dsimp only at this; omega))) (far_cell h1 HB1.out (fun hf => by have := H.out.lt hf; first | omega | (dsimp only at this; omega)))).mono ?_
        rintro e w2 ⟨he, X', ha, hd⟩
        exact ⟨he, X', by rw [ha, abs_tick], hd⟩
      · rintro e w3 ⟨X3, rfl, hX3, hD3⟩
        have HX3 := Lib.hid hX3
        have HD3 := Lib.hid (HD0.out.trans hD3)
        clear hX3 hD3
        go_wp2
        go_ret
        rw [HA.out]
        exact ⟨X3, rfl, HX3.out, HD3.out⟩
set_option maxRecDepth 100000 in
set_option maxHeartbeats 1600000 in
theorem cut_any (w : World) (d : Nat) (X : Dk) (n : Bs) (k : Int) (h : At w d X) (hn : n.length ≤ maxLen) (hfl : X.falls < 1000000) : Calls Try.prog 22 #[.pointer (some ⟨d, 0, none⟩), .string (sv n), .int .i64 k] w fun e w' => Said w w' d X (cutA (abs X) n k) e := by
  have H := Lib.hid h
  have eo : (abs X).off = X.off := rfl
  obtain ⟨off, hoff⟩ : ∃ o, X.off = o := ⟨_, rfl⟩
  obtain ⟨o, ho⟩ : ∃ o, fndF X.L n = o := ⟨_, rfl⟩
  have hV : ofV X n = ofVal off o := by unfold ofV; rw [hoff, ho]
  have hg := abs_get X n
  rw [ho] at hg
  have hm0 : Mod (fun _ => False) w (w.alloc (.cells #[.int .i64 k] 3)) := ((Mod.refl _ _).alloc _)
  have b0 : ((w.alloc (.cells #[.int .i64 k] 3))).cell? ⟨w.heap.size, 0, none⟩ = some (.int .i64 k) := by
    have := new_cell w (.int .i64 k) 3
    exact this
  have hAt := h.still hm0
  cases off with
  | true =>
    have HA : Hid (cutA (abs X) n k = (abs X, 13)) := Lib.hid (by unfold cutA ofA; rw [eo, hoff]; rfl)
    have hof := of_v hAt hn (v := .tuple #[.pointer none, .int .i64 13]) hV
    have HD0 := Lib.hid (Done.still H.out hm0)
    clear h hoff ho hV hg hAt hm0 b0
    go_enter Try.func22, Try.ntmps22
    go_wp2_with (fail)
    refine hof.mono ?_
    rintro e w' ⟨rfl, rfl⟩
    go_wp2
    go_ret
    rw [HA.out]
    exact ⟨X, rfl, rfl, HD0.out.calm ((Mod.refl _ _).alloc _)⟩
  | false =>
    cases o with
    | none =>
      have HA : Hid (cutA (abs X) n k = (abs X, 15)) := Lib.hid (by unfold cutA ofA; rw [eo, hoff, hg]; rfl)
      have hof := of_v hAt hn (v := .tuple #[.pointer none, .int .i64 15]) hV
      have HD0 := Lib.hid (Done.still H.out hm0)
      clear h hoff ho hV hg hAt hm0 b0
      go_enter Try.func22, Try.ntmps22
      go_wp2_with (fail)
      refine hof.mono ?_
      rintro e w' ⟨rfl, rfl⟩
      go_wp2
      go_ret
      rw [HA.out]
      exact ⟨X, rfl, rfl, HD0.out.calm ((Mod.refl _ _).alloc _)⟩
    | some f =>
      have hcf : ((w.alloc (.cells #[.int .i64 k] 3))).cell? ⟨f.g, 0, none⟩ = some f.v := by rw [(hAt.files f (fnd_some ho).1).blk.cell]; rfl
      obtain ⟨fa, fc, hfv, _, hfc⟩ := (hAt.files f (fnd_some ho).1).fb.shape
      have hfl2 := (hAt.files f (fnd_some ho).1).len
      rw [hfv] at hcf
      have hcf2 := alloc_keep hcf (.cells #[.pointer (some ⟨f.g, 0, none⟩)] 58)
      have HG : Hid (cutA (abs X) n k = if k < 0 ∨ k > (f.b.length : Int) then (abs X, 1) else deedA (abs X) fun A => withFs A (setA A.fs n (f.b.take k.toNat) (min k.toNat f.n))) := Lib.hid (by unfold cutA ofA; rw [eo, hoff, hg]; rfl)
      have hof := of_v hAt hn (v := .tuple #[.pointer (some ⟨f.g, 0, none⟩), .int .i64 0]) hV
      have hm1 : Mod (fun _ => False) w ((w.alloc (.cells #[.int .i64 k] 3)).alloc (.cells #[.pointer (some ⟨f.g, 0, none⟩)] 58)) := hm0.alloc _
      have HD0 := Lib.hid (Done.still H.out hm1)
      have b0' := alloc_keep b0 (.cells #[.pointer (some ⟨f.g, 0, none⟩)] 58)
      have b1 : (((w.alloc (.cells #[.int .i64 k] 3)).alloc (.cells #[.pointer (some ⟨f.g, 0, none⟩)] 58))).cell? ⟨w.heap.size + 1, 0, none⟩ = some (.pointer (some ⟨f.g, 0, none⟩)) := by
        have := new_cell (w.alloc (.cells #[.int .i64 k] 3)) (.pointer (some ⟨f.g, 0, none⟩)) 58
        simp only [new_size] at this
        exact this
      have HB0 := Lib.hid b0'
      have HB1 := Lib.hid b1
      have HO := Lib.hid ho
      obtain ⟨bl, hbl⟩ : ∃ l, f.b.length = l := ⟨_, rfl⟩
      rw [hbl] at hcf hcf2
      have HBL := Lib.hid hbl
      have hcg : f.g < w.heap.size := (h.files f (fnd_some ho).1).blk.lt
      clear h hoff ho hV hg hAt hm0 hm1 hfv hbl
      by_cases hk0 : k < 0
      · have HA : Hid (cutA (abs X) n k = (abs X, 1)) := Lib.hid (by rw [HG.out, if_pos (.inl hk0)])
        clear hcf hfl2 hfc
        go_enter Try.func22, Try.ntmps22
        go_wp2_with (fail)
        refine hof.mono ?_
        rintro e w' ⟨rfl, rfl⟩
        go_wp2
        go_quiet (fail)
        go_wp2
        go_ret
        rw [HA.out]
        exact ⟨X, rfl, rfl, HD0.out.calm ((Mod.refl _ _).drewN _)⟩
      · by_cases hk1 : k > (bl : Int)
        · have HA : Hid (cutA (abs X) n k = (abs X, 1)) := Lib.hid (by rw [HG.out, if_pos (.inr (by rw [HBL.out]; exact hk1))])
          clear hcf hfl2 hfc
          go_enter Try.func22, Try.ntmps22
          go_wp2_with (fail)
          refine hof.mono ?_
          rintro e w' ⟨rfl, rfl⟩
          go_wp2
          go_quiet (fail)
          go_wp2
          go_ret
          rw [HA.out]
          exact ⟨X, rfl, rfl, HD0.out.calm ((Mod.refl _ _).drewN _)⟩
        · obtain ⟨m, rfl⟩ := Int.eq_ofNat_of_zero_le (show 0 ≤ k by omega)
          have HA : Hid (cutA (abs X) n (m : Int) = deedA (abs X) fun A => withFs A (setA A.fs n (f.b.take m) (min m f.n))) := Lib.hid (by rw [HG.out, if_neg (by rw [HBL.out]; omega)]; rfl)
          have HM : Hid (m ≤ f.b.length) := Lib.hid (by rw [HBL.out]; omega)
          clear hcf hfl2 hfc
          go_enter Try.func22, Try.ntmps22
          go_wp2_with (fail)
          refine hof.mono ?_
          rintro e w' ⟨rfl, rfl⟩
          go_wp2
          go_quiet (fail)
          go_wp2_with (fail)
          refine (deed_said _ d X 35 _ (fun A => withFs A (setA A.fs n (f.b.take m) (min m f.n))) (HD0.out.calm ((Mod.refl _ _).drewN _)).a hfl (enter35 _) (fun w1 h1 => ?_)).mono ?_
          · refine (cut_do w1 d (tick X) n f m _ _ h1.a (by rw [tick_fnd]; exact HO.out) HM.out (far_cell h1 HB1.out (fun hf => by have := H.out.lt hf; first | omega | (dsimp only at this; omega))) (far_cell h1 HB0.out (fun hf => by have := H.out.lt hf; first | omega | (dsimp only at this; omega))) (by omega) (by omega)).mono ?_
            rintro e w2 ⟨he, X', ha, hd⟩
            exact ⟨he, X', by rw [ha, abs_tick], hd⟩
          · rintro e w3 ⟨X3, rfl, hX3, hD3⟩
            have HX3 := Lib.hid hX3
            have HD3 := Lib.hid ((HD0.out.calm ((Mod.refl _ _).drewN _)).trans hD3)
            clear hX3 hD3
            go_wp2
            go_ret
            rw [HA.out]
            exact ⟨X3, rfl, HX3.out, HD3.out⟩
set_option maxRecDepth 100000 in
set_option maxHeartbeats 1600000 in
theorem rename_any (w : World) (d : Nat) (X : Dk) (n t : Bs) (h : At w d X) (hn : n.length ≤ maxLen) (ht : t.length ≤ maxLen) (hfl : X.falls < 1000000) : Calls Try.prog 23 #[.pointer (some ⟨d, 0, none⟩), .string (sv n), .string (sv t)] w fun e w' => Said w w' d X (renameA (abs X) n t) e := by
  have H := Lib.hid h
  have eo : (abs X).off = X.off := rfl
  obtain ⟨off, hoff⟩ : ∃ o, X.off = o := ⟨_, rfl⟩
  obtain ⟨o, ho⟩ : ∃ o, fndF X.L n = o := ⟨_, rfl⟩
  have hV : ofV X n = ofVal off o := by unfold ofV; rw [hoff, ho]
  have hg := abs_get X n
  rw [ho] at hg
  have hm0 : Mod (fun _ => False) w (((w.alloc (.cells #[.pointer (some ⟨d, 0, none⟩)] 25)).alloc (.cells #[.string (sv n)] 9)).alloc (.cells #[.string (sv t)] 9)) := ((((Mod.refl _ _).alloc _).alloc _).alloc _)
  have b0 : ((((w.alloc (.cells #[.pointer (some ⟨d, 0, none⟩)] 25)).alloc (.cells #[.string (sv n)] 9)).alloc (.cells #[.string (sv t)] 9))).cell? ⟨w.heap.size, 0, none⟩ = some (.pointer (some ⟨d, 0, none⟩)) := by
    have := (alloc_keep ((alloc_keep (new_cell w (.pointer (some ⟨d, 0, none⟩)) 25) (.cells #[.string (sv n)] 9))) (.cells #[.string (sv t)] 9))
    exact this
  have b1 : ((((w.alloc (.cells #[.pointer (some ⟨d, 0, none⟩)] 25)).alloc (.cells #[.string (sv n)] 9)).alloc (.cells #[.string (sv t)] 9))).cell? ⟨w.heap.size + 1, 0, none⟩ = some (.string (sv n)) := by
    have := (alloc_keep (new_cell (w.alloc (.cells #[.pointer (some ⟨d, 0, none⟩)] 25)) (.string (sv n)) 9) (.cells #[.string (sv t)] 9))
    simp only [new_size] at this
    exact this
  have b2 : ((((w.alloc (.cells #[.pointer (some ⟨d, 0, none⟩)] 25)).alloc (.cells #[.string (sv n)] 9)).alloc (.cells #[.string (sv t)] 9))).cell? ⟨w.heap.size + 2, 0, none⟩ = some (.string (sv t)) := by
    have := new_cell ((w.alloc (.cells #[.pointer (some ⟨d, 0, none⟩)] 25)).alloc (.cells #[.string (sv n)] 9)) (.string (sv t)) 9
    simp only [new_size] at this
    exact this
  have hAt := h.still hm0
  cases off with
  | true =>
    have HA : Hid (renameA (abs X) n t = (abs X, 13)) := Lib.hid (by unfold renameA ofA; rw [eo, hoff]; rfl)
    have hof := of_v hAt hn (v := .tuple #[.pointer none, .int .i64 13]) hV
    have HD0 := Lib.hid (Done.still H.out hm0)
    clear h hoff ho hV hg hAt hm0 b0 b1 b2
    go_enter Try.func23, Try.ntmps23
    go_wp2_with (fail)
    refine hof.mono ?_
    rintro e w' ⟨rfl, rfl⟩
    go_wp2
    go_ret
    rw [HA.out]
    exact ⟨X, rfl, rfl, HD0.out.calm ((Mod.refl _ _).alloc _)⟩
  | false =>
    cases o with
    | none =>
      have HA : Hid (renameA (abs X) n t = (abs X, 15)) := Lib.hid (by unfold renameA ofA; rw [eo, hoff, hg]; rfl)
      have hof := of_v hAt hn (v := .tuple #[.pointer none, .int .i64 15]) hV
      have HD0 := Lib.hid (Done.still H.out hm0)
      clear h hoff ho hV hg hAt hm0 b0 b1 b2
      go_enter Try.func23, Try.ntmps23
      go_wp2_with (fail)
      refine hof.mono ?_
      rintro e w' ⟨rfl, rfl⟩
      go_wp2
      go_ret
      rw [HA.out]
      exact ⟨X, rfl, rfl, HD0.out.calm ((Mod.refl _ _).alloc _)⟩
    | some f =>
      have HG : Hid (renameA (abs X) n t = if nmA t = false then (abs X, 1) else deedA (abs X) fun A => withFs A (insA (t, f.b, f.n) (delA (delA A.fs n) t))) := Lib.hid (by unfold renameA ofA; rw [eo, hoff, hg]; rfl)
      have hof := of_v hAt hn (v := .tuple #[.pointer (some ⟨f.g, 0, none⟩), .int .i64 0]) hV
      have hm1 : Mod (fun _ => False) w ((((w.alloc (.cells #[.pointer (some ⟨d, 0, none⟩)] 25)).alloc (.cells #[.string (sv n)] 9)).alloc (.cells #[.string (sv t)] 9)).alloc (.cells #[.pointer (some ⟨f.g, 0, none⟩)] 58)) := hm0.alloc _
      have HD0 := Lib.hid (Done.still H.out hm1)
      have b3 : (((((w.alloc (.cells #[.pointer (some ⟨d, 0, none⟩)] 25)).alloc (.cells #[.string (sv n)] 9)).alloc (.cells #[.string (sv t)] 9)).alloc (.cells #[.pointer (some ⟨f.g, 0, none⟩)] 58))).cell? ⟨w.heap.size + 3, 0, none⟩ = some (.pointer (some ⟨f.g, 0, none⟩)) := by
        have := new_cell (((w.alloc (.cells #[.pointer (some ⟨d, 0, none⟩)] 25)).alloc (.cells #[.string (sv n)] 9)).alloc (.cells #[.string (sv t)] 9)) (.pointer (some ⟨f.g, 0, none⟩)) 58
        simp only [new_size] at this
        exact this
      have b0' := alloc_keep b0 (.cells #[.pointer (some ⟨f.g, 0, none⟩)] 58)
      have b1' := alloc_keep b1 (.cells #[.pointer (some ⟨f.g, 0, none⟩)] 58)
      have b2' := alloc_keep b2 (.cells #[.pointer (some ⟨f.g, 0, none⟩)] 58)
      have HB0 := Lib.hid b0'
      have HB1 := Lib.hid b1'
      have HB2 := Lib.hid b2'
      have HB3 := Lib.hid b3
      have HO := Lib.hid ho
      obtain ⟨nm, hnm⟩ : ∃ x, nmA t = x := ⟨_, rfl⟩
      have hnmd := fun w => named_b hnm ht w
      clear h hoff ho hV hg hAt hm0 hm1 b0 b1
      cases nm with
      | false =>
        have HA : Hid (renameA (abs X) n t = (abs X, 1)) := Lib.hid (by rw [HG.out, if_pos hnm])
        clear hnm
        go_enter Try.func23, Try.ntmps23
        go_wp2_with (fail)
        refine hof.mono ?_
        rintro e w' ⟨rfl, rfl⟩
        go_wp2_with (fail)
        refine (hnmd _).mono ?_
        rintro e w' ⟨rfl, rfl⟩
        go_wp2
        go_ret
        rw [HA.out]
        exact ⟨X, rfl, rfl, HD0.out⟩
      | true =>
        have HA : Hid (renameA (abs X) n t = deedA (abs X) fun A => withFs A (insA (t, f.b, f.n) (delA (delA A.fs n) t))) := Lib.hid (by rw [HG.out, if_neg (by rw [hnm]; decide)])
        have HT : Hid (t.length ≤ 32) := Lib.hid (by unfold nmA at hnm; simp at hnm; exact hnm.2)
        clear hnm
        go_enter Try.func23, Try.ntmps23
        go_wp2_with (fail)
        refine hof.mono ?_
        rintro e w' ⟨rfl, rfl⟩
        go_wp2_with (fail)
        refine (hnmd _).mono ?_
        rintro e w' ⟨rfl, rfl⟩
        go_wp2_with (fail)
        refine (deed_said _ d X 36 _ (fun A => withFs A (insA (t, f.b, f.n) (delA (delA A.fs n) t))) HD0.out.a hfl (enter36 _) (fun w1 h1 => ?_)).mono ?_
        · refine (rename_do w1 d (tick X) n t f _ _ _ _ h1.a hn (by rw [tick_fnd]; exact HO.out) HT.out (far_cell h1 HB0.out (fun hf => by have := H.out.lt hf; first | omega | (dsimp only at this; omega))) (far_cell h1 HB1.out (fun hf => by have := H.out.lt hf; first | omega | (dsimp only at this; omega))) (far_cell h1 HB3.out (fun hf => by have := H.out.lt hf; first | omega | (dsimp only at this; omega))) (far_cell h1 HB2.out (fun hf => by have := H.out.lt hf; first | omega | (dsimp only at this; omega))) (h1.far (fun hf => by have := H.out.lt hf; first | omega | (dsimp only at this; omega)) (by have := HD0.out.m.size; simp only [new_size] at this ⊢; omega)) (h1.far (fun hf => by have := H.out.lt hf; first | omega | (dsimp only at this; omega)) (by simp only [new_size]; omega)) (h1.far (fun hf => by have := H.out.lt hf; first | omega | (dsimp only at this; omega)) (by simp only [new_size]; omega))).mono ?_
          rintro e w2 ⟨he, X', ha, hd⟩
          exact ⟨he, X', by rw [ha, abs_tick], hd⟩
        · rintro e w3 ⟨X3, rfl, hX3, hD3⟩
          have HX3 := Lib.hid hX3
          have HD3 := Lib.hid (HD0.out.trans hD3)
          clear hX3 hD3
          go_wp2
          go_ret
          rw [HA.out]
          exact ⟨X3, rfl, HX3.out, HD3.out⟩
end Go.Proofs.Ytoceddcppbddnaa
