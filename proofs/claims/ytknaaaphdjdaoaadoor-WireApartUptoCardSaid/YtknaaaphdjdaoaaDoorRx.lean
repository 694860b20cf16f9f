/-
  The reader: texts.
-/
import Derived.Test.YtknaaaphdjdaoaaDoorRn
namespace Go.Proofs.YtknaaaphdjdaoaaDoor
open Go.RowKit Mem
set_option linter.unusedVariables false
set_option linter.unusedSimpArgs false

theorem gt_le (l : Bs) (most : Int) : (gt l most).2 ≤ l.length ∧ (gt l most).1.length ≤ l.length := by
  have h := gn_le l
  unfold gt
  split
  · exact ⟨Nat.zero_le _, Nat.zero_le _⟩
  · next hh =>
    simp only [List.length_take, List.length_drop]
    omega
/-- []byte(s). -/
theorem rd_conv (w : World) (l : Bs) (c : Nat) (fz : Nat × Nat) (hc : l.length ≤ c) (hm : c ≤ maxLen) : RdC (w.alloc (.cells (bytesRow (sv l) c) 5 fz)) (.slice (some ⟨w.heap.size, 0, none⟩) l.length c) l := by
  refine ⟨.inr ⟨⟨w.heap.size, 0, none⟩, c, rfl, fun q u hu => ?_⟩, _, c, rfl, hc, hm⟩
  rw [Addr.add_lit, Nat.zero_add, alloc_cell]
  have hq : q < l.length := by have := (List.getElem?_eq_some_iff.1 hu).1; rwa [bts_len] at this
  have hq2 : q < (sv l).size := hq
  simp [bts, bytesRow, Array.getElem?_append, hq2] at hu ⊢
  obtain ⟨a, ha, rfl⟩ := hu
  obtain ⟨_, rfl⟩ := List.getElem?_eq_some_iff.1 ha
  rfl
set_option maxRecDepth 100000 in
set_option maxHeartbeats 3200000 in
theorem text_any (B : Nat) (r : Nat) (bv : Value) (l : Bs) (k : Nat) (most : Nat) (hmo : most ≤ 1000000) (w : World) (h : Rr B w r bv l k) :
    Calls Tryd.prog 50 #[.pointer (some ⟨r, 0, none⟩), .int .i64 (most : Int)] w (Reads (fun w' v s => RdC w' v s ∧ ∀ a n c, v = .slice (some a) n c → w.heap.size ≤ a.block) B r bv l w (tb l k most)) := by
  obtain ⟨A, c, rfl⟩ : ∃ A c, bv = .slice A l.length c := by obtain ⟨A, c, hv, _⟩ := h.2.1.2; exact ⟨A, c, hv⟩
  have H := Lib.hid h
  have c0 : w.cell? ⟨r, 0, none⟩ = some (.slice A l.length c) := h.1.cell 0
  have c1 : w.cell? ⟨r, 1, none⟩ = some (.int .i64 (k : Int)) := h.1.cell 1
  have z1 := h.1.frozen 1
  have hkl := h.2.2.2.1
  have hll := h.2.2.2.2.1
  obtain ⟨T, hN⟩ : ∃ T, (gt (l.drop k) (most : Int)).1 = T := ⟨_, rfl⟩
  obtain ⟨K, hK⟩ : ∃ K, (gt (l.drop k) (most : Int)).2 = K := ⟨_, rfl⟩
  have hnb : tb l k most = if K = 0 then .error k else .ok (T, k + K) := by unfold tb; rw [hN, hK]
  have hgl := gt_le (l.drop k) (most : Int)
  have hKl : k + K ≤ l.length := by have := hgl.1; rw [hK, List.length_drop] at this; omega
  have hTl : T.length ≤ 4194304 := by have := hgl.2; rw [hN, List.length_drop] at this; omega
  have hlc : l.length ≤ c := by obtain ⟨_, A', c', hv, h1, _⟩ := h.2.1; injection hv with _ _ e; omega
  have hcm : c ≤ 9223372036854775807 := by obtain ⟨_, A', c', hv, _, h1⟩ := h.2.1; injection hv with _ _ e; have := maxLen_le; omega
  have hg : ∃ v, (∀ n, Calls Tryd.prog 58 #[v, .int .i64 (most : Int)] (w.drewN n) fun e w' => e = .returned (.tuple #[.string (sv T), .int .i64 (K : Int)]) ∧ w' = w.drewN n) ∧ ((∃ x, A = some x ∧ ((c ≠ k ∧ v = .slice (some (x.add k)) (l.length - k) (c - k)) ∨ (c = k ∧ v = .slice (some x) 0 0))) ∨ (A = none ∧ l.length = 0 ∧ c = 0 ∧ k = 0 ∧ v = .slice none 0 0)) := by
    have hr := h.2.1
    cases A with
    | none =>
      rcases hr.1 with ⟨hv, rfl⟩ | ⟨x, c', hv, _⟩
      · injection hv with _ _ e
        have hk0 : k = 0 := by simpa using hkl
        subst hk0
        refine ⟨.slice none 0 0, fun n => ?_, .inr ⟨rfl, rfl, e, rfl, rfl⟩⟩
        have := gettext_any none 0 0 [] (most : Int) (w.drewN n) rfl ⟨.inl ⟨rfl, rfl⟩, none, 0, rfl, Nat.le_refl _, Nat.zero_le _⟩ (by omega)
        rw [List.drop_nil] at hN hK
        rw [hN, hK] at this
        exact this
      · cases hv
    | some x =>
      by_cases hck : c = k
      · refine ⟨.slice (some x) 0 0, fun n => ?_, .inl ⟨x, rfl, .inr ⟨hck, rfl⟩⟩⟩
        have := gettext_any (some x) 0 0 [] (most : Int) (w.drewN n) rfl (RdC.empty (w.drewN n) x 0 (Nat.zero_le _)) (by omega)
        have e1 : l.drop k = [] := List.drop_eq_nil_of_le (by omega)
        rw [e1] at hN hK
        rw [hN, hK] at this
        exact this
      · refine ⟨.slice (some (x.add k)) (l.length - k) (c - k), fun n => ?_, .inl ⟨x, rfl, .inl ⟨hck, rfl⟩⟩⟩
        have := gettext_any (some (x.add k)) (l.length - k) (c - k) (l.drop k) (most : Int) (w.drewN n) (List.length_drop ..) ((hr.mod ((Mod.refl _ w).drewN n)).drop k hkl) (by omega)
        rw [hN, hK] at this
        exact this
  obtain ⟨v, hg, hv⟩ := hg
  have hwm : IntKind.u64.wrap (most : Int) = (most : Int) := by rw [IntKind.wrap_u64]; omega
  have hkn : (k : Int) ≤ (l.length : Int) := by omega
  have hknc : (k : Int) ≤ (c : Int) := by omega
  rw [hnb]
  have HKL := Lib.hid hKl
  have HST := Lib.hid (fun q => H.out.step q (k + K) hKl)
  have HMS := Lib.hid (fun (q : Nat) (v : Value) => Mod.setCell (S := fun x => x = r) ((Mod.refl _ w).drewN q) (p := ⟨r, 1, none⟩) (.inl rfl) v)
  have hw1 : IntKind.i64.wrap ((k : Int) + (K : Int)) = (k : Int) + (K : Int) := by rw [IntKind.wrap_i64]; omega
  have hpc : ((k + K : Nat) : Int) = (k : Int) + (K : Int) := by omega
  rw [hpc] at HST
  clear hnb hN hK h hKl hpc hgl
  by_cases hbad : K = 0
  · rw [if_pos hbad]
    subst hbad
    go_enter Tryd.func50, Tryd.ntmps50
    go_wp2_with (fail)
    rcases hv with ⟨x, rfl, ⟨hck, rfl⟩ | ⟨hck, rfl⟩⟩ | ⟨rfl, hl0, hc0, hk0, rfl⟩
    · go_quiet ((go_at_call 58; refine Calls.quiet_of_same (hg _)))
      go_wp2_with (fail)
      all_goals first
        | (exfalso; omega)
        | exact ⟨rfl, rfl, (Mod.refl _ w).drewN _⟩
    · subst hck
      go_quiet ((go_at_call 58; refine Calls.quiet_of_same (hg _)))
      go_wp2_with (fail)
      all_goals first
        | (exfalso; omega)
        | exact ⟨rfl, rfl, (Mod.refl _ w).drewN _⟩
    · subst hc0 hk0
      go_quiet ((go_at_call 58; refine Calls.quiet_of_same (hg _)))
      go_wp2_with (fail)
      all_goals first
        | (exfalso; omega)
        | exact ⟨rfl, rfl, (Mod.refl _ w).drewN _⟩
  · rw [if_neg hbad]
    have hK0 : ¬ K = 0 := by omega
    have hK0' : ((K : Int) == 0) = false := by simp; omega
    have hcv := fun w s => run_bytes_of_string (P := Tryd.prog) w 9 24 5 s Tryd.underlying9 Tryd.underlying24 Tryd.underlying5
    go_enter Tryd.func50, Tryd.ntmps50
    go_wp2_with (fail)
    rcases hv with ⟨x, rfl, ⟨hck, rfl⟩ | ⟨hck, rfl⟩⟩ | ⟨rfl, hl0, hc0, hk0, rfl⟩
    · go_quiet ((go_at_call 58; refine Calls.quiet_of_same (hg _)))
      go_wp2_with (fail)
      all_goals first
        | (exfalso; omega)
        | (go_ret
           obtain ⟨W1, hW1⟩ : ∃ W1, (w.drewN nq).setCell ⟨r, 1, none⟩ (.int .i64 ((k : Int) + (K : Int))) = W1 := ⟨_, rfl⟩
           have e1 : W1.drew.heap.size = w.heap.size := by rw [← hW1]; show (World.setCell _ _ _).heap.size = _; simp
           have x1 := HST.out nq
           have x2 := HMS.out nq (.int .i64 ((k : Int) + (K : Int)))
           rw [hW1] at x1 x2 ⊢
           have x3 := rd_conv W1.drew T (grownCap W1 (sv T).size 0 5) ((bytesRow (sv T) (grownCap W1 (sv T).size 0 5)).size, (bytesRow (sv T) (grownCap W1 (sv T).size 0 5)).size + 1) (grownCap_ge W1 (sv T).size 0 5) (grownCap_le_maxLen W1 (sv T).size 0 5 (by rw [sv_size]; unfold maxLen; omega))
           rw [e1] at x3
           exact ⟨_, rfl, x1.mod ((Mod.refl _ W1).drew.alloc _), x2.drew.alloc _, x3, fun a n c h => by injection h with h; injection h with h; rw [← h]; exact Nat.le_refl _⟩)
    · exfalso
      have := HKL.out
      omega
    · exfalso
      have := HKL.out
      omega
end Go.Proofs.YtknaaaphdjdaoaaDoor
