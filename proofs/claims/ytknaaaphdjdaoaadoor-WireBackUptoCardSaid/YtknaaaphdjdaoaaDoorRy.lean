/-
  The reader: texts.
  The reader: nodes.
-/
import Derived.Test.YtknaaaphdjdaoaaDoorRn
section
namespace Go.Proofs.YtknaaaphdjdaoaaDoor
open Go.RowKit Mem
set_option linter.unusedVariables false
set_option linter.unusedSimpArgs false

theorem gt_le (l : Bs) (most : Int) : (gt l most).2 ≤ l.length ∧ (gt l most).1.length ≤ l.length := by
  have h := gn_le l
  unfold gt
  split
  · exact ⟨Nat.zero_le _, Nat.zero_le _⟩
  · next hh =>
    simp only [List.length_take, List.length_drop]
    omega
/-- []byte(s). -/
theorem rd_conv (w : World) (l : Bs) (c : Nat) (fz : Nat × Nat) (hc : l.length ≤ c) (hm : c ≤ maxLen) : RdC (w.alloc (.cells (bytesRow (sv l) c) 5 fz)) (.slice (some ⟨w.heap.size, 0, none⟩) l.length c) l := by
  refine ⟨.inr ⟨⟨w.heap.size, 0, none⟩, c, rfl, fun q u hu => ?_⟩, _, c, rfl, hc, hm⟩
  rw [Addr.add_lit, Nat.zero_add, alloc_cell]
  have hq : q < l.length := by have := (List.getElem?_eq_some_iff.1 hu).1; rwa [bts_len] at this
  have hq2 : q < (sv l).size := hq
  simp [bts, bytesRow, Array.getElem?_append, hq2] at hu ⊢
  obtain ⟨a, ha, rfl⟩ := hu
  obtain ⟨_, rfl⟩ := List.getElem?_eq_some_iff.1 ha
  rfl
set_option maxRecDepth 100000 in
set_option maxHeartbeats 3200000 in
theorem text_any (B : Nat) (r : Nat) (bv : Value) (l : Bs) (k : Nat) (most : Nat) (hmo : most ≤ 1000000) (w : World) (h : Rr B w r bv l k) :
    Calls Tryd.prog 50 #[.pointer (some ⟨r, 0, none⟩), .int .i64 (most : Int)] w (Reads (fun w' v s => RdC w' v s ∧ ∀ a n c, v = .slice (some a) n c → w.heap.size ≤ a.block) B r bv l w (tb l k most)) := by
  obtain ⟨A, c, rfl⟩ : ∃ A c, bv = .slice A l.length c := by obtain ⟨A, c, hv, _⟩ := h.2.1.2; exact ⟨A, c, hv⟩
  have H := Lib.hid h
  have c0 : w.cell? ⟨r, 0, none⟩ = some (.slice A l.length c) := h.1.cell 0
  have c1 : w.cell? ⟨r, 1, none⟩ = some (.int .i64 (k : Int)) := h.1.cell 1
  have z1 := h.1.frozen 1
  have hkl := h.2.2.2.1
  have hll := h.2.2.2.2.1
  obtain ⟨T, hN⟩ : ∃ T, (gt (l.drop k) (most : Int)).1 = T := ⟨_, rfl⟩
  obtain ⟨K, hK⟩ : ∃ K, (gt (l.drop k) (most : Int)).2 = K := ⟨_, rfl⟩
  have hnb : tb l k most = if K = 0 then .error k else .ok (T, k + K) := by unfold tb; rw [hN, hK]
  have hgl := gt_le (l.drop k) (most : Int)
  have hKl : k + K ≤ l.length := by have := hgl.1; rw [hK, List.length_drop] at this; omega
  have hTl : T.length ≤ 4194304 := by have := hgl.2; rw [hN, List.length_drop] at this; omega
  have hlc : l.length ≤ c := by obtain ⟨_, A', c', hv, h1, _⟩ := h.2.1; injection hv with _ _ e; omega
  have hcm : c ≤ 9223372036854775807 := by obtain ⟨_, A', c', hv, _, h1⟩ := h.2.1; injection hv with _ _ e; have := maxLen_le; omega
  have hg : ∃ v, (∀ n, Calls Tryd.prog 58 #[v, .int .i64 (most : Int)] (w.drewN n) fun e w' => e = .returned (.tuple #[.string (sv T), .int .i64 (K : Int)]) ∧ w' = w.drewN n) ∧ ((∃ x, A = some x ∧ ((c ≠ k ∧ v = .slice (some (x.add k)) (l.length - k) (c - k)) ∨ (c = k ∧ v = .slice (some x) 0 0))) ∨ (A = none ∧ l.length = 0 ∧ c = 0 ∧ k = 0 ∧ v = .slice none 0 0)) := by
    have hr := h.2.1
    cases A with
    | none =>
      rcases hr.1 with ⟨hv, rfl⟩ | ⟨x, c', hv, _⟩
      · injection hv with _ _ e
        have hk0 : k = 0 := by simpa using hkl
        subst hk0
        refine ⟨.slice none 0 0, fun n => ?_, .inr ⟨rfl, rfl, e, rfl, rfl⟩⟩
        have := gettext_any none 0 0 [] (most : Int) (w.drewN n) rfl ⟨.inl ⟨rfl, rfl⟩, none, 0, rfl, Nat.le_refl _, Nat.zero_le _⟩ (by omega)
        rw [List.drop_nil] at hN hK
        rw [hN, hK] at this
        exact this
      · cases hv
    | some x =>
      by_cases hck : c = k
      · refine ⟨.slice (some x) 0 0, fun n => ?_, .inl ⟨x, rfl, .inr ⟨hck, rfl⟩⟩⟩
        have := gettext_any (some x) 0 0 [] (most : Int) (w.drewN n) rfl (RdC.empty (w.drewN n) x 0 (Nat.zero_le _)) (by omega)
        have e1 : l.drop k = [] := List.drop_eq_nil_of_le (by omega)
        rw [e1] at hN hK
        rw [hN, hK] at this
        exact this
      · refine ⟨.slice (some (x.add k)) (l.length - k) (c - k), fun n => ?_, .inl ⟨x, rfl, .inl ⟨hck, rfl⟩⟩⟩
        have := gettext_any (some (x.add k)) (l.length - k) (c - k) (l.drop k) (most : Int) (w.drewN n) (List.length_drop ..) ((hr.mod ((Mod.refl _ w).drewN n)).drop k hkl) (by omega)
        rw [hN, hK] at this
        exact this
  obtain ⟨v, hg, hv⟩ := hg
  have hwm : IntKind.u64.wrap (most : Int) = (most : Int) := by rw [IntKind.wrap_u64]; omega
  have hkn : (k : Int) ≤ (l.length : Int) := by omega
  have hknc : (k : Int) ≤ (c : Int) := by omega
  rw [hnb]
  have HKL := Lib.hid hKl
  have HST := Lib.hid (fun q => H.out.step q (k + K) hKl)
  have HMS := Lib.hid (fun (q : Nat) (v : Value) => Mod.setCell (S := fun x => x = r) ((Mod.refl _ w).drewN q) (p := ⟨r, 1, none⟩) (.inl rfl) v)
  have hw1 : IntKind.i64.wrap ((k : Int) + (K : Int)) = (k : Int) + (K : Int) := by rw [IntKind.wrap_i64]; omega
  have hpc : ((k + K : Nat) : Int) = (k : Int) + (K : Int) := by omega
  rw [hpc] at HST
  clear hnb hN hK h hKl hpc hgl
  by_cases hbad : K = 0
  · rw [if_pos hbad]
    subst hbad
    go_enter Tryd.func50, Tryd.ntmps50
    go_wp2_with (fail)
    rcases hv with ⟨x, rfl, ⟨hck, rfl⟩ | ⟨hck, rfl⟩⟩ | ⟨rfl, hl0, hc0, hk0, rfl⟩
    · go_quiet ((go_at_call 58; refine Calls.quiet_of_same (hg _)))
      go_wp2_with (fail)
      all_goals first
        | (exfalso; omega)
        | exact ⟨rfl, rfl, (Mod.refl _ w).drewN _⟩
    · subst hck
      go_quiet ((go_at_call 58; refine Calls.quiet_of_same (hg _)))
      go_wp2_with (fail)
      all_goals first
        | (exfalso; omega)
        | exact ⟨rfl, rfl, (Mod.refl _ w).drewN _⟩
    · subst hc0 hk0
      go_quiet ((go_at_call 58; refine Calls.quiet_of_same (hg _)))
      go_wp2_with (fail)
      all_goals first
        | (exfalso; omega)
        | exact ⟨rfl, rfl, (Mod.refl _ w).drewN _⟩
  · rw [if_neg hbad]
    have hK0 : ¬ K = 0 := by omega
    have hK0' : ((K : Int) == 0) = false := by simp; omega
    have hcv := fun w s => run_bytes_of_string (P := Tryd.prog) w 9 24 5 s Tryd.underlying9 Tryd.underlying24 Tryd.underlying5
    go_enter Tryd.func50, Tryd.ntmps50
    go_wp2_with (fail)
    rcases hv with ⟨x, rfl, ⟨hck, rfl⟩ | ⟨hck, rfl⟩⟩ | ⟨rfl, hl0, hc0, hk0, rfl⟩
    · go_quiet ((go_at_call 58; refine Calls.quiet_of_same (hg _)))
      go_wp2_with (fail)
      all_goals first
        | (exfalso; omega)
        | (go_ret
           obtain ⟨W1, hW1⟩ : ∃ W1, (w.drewN nq).setCell ⟨r, 1, none⟩ (.int .i64 ((k : Int) + (K : Int))) = W1 := ⟨_, rfl⟩
           have e1 : W1.drew.heap.size = w.heap.size := by rw [← hW1]; show (World.setCell _ _ _).heap.size = _; simp
           have x1 := HST.out nq
           have x2 := HMS.out nq (.int .i64 ((k : Int) + (K : Int)))
           rw [hW1] at x1 x2 ⊢
           have x3 := rd_conv W1.drew T (grownCap W1 (sv T).size 0 5) ((bytesRow (sv T) (grownCap W1 (sv T).size 0 5)).size, (bytesRow (sv T) (grownCap W1 (sv T).size 0 5)).size + 1) (grownCap_ge W1 (sv T).size 0 5) (grownCap_le_maxLen W1 (sv T).size 0 5 (by rw [sv_size]; unfold maxLen; omega))
           rw [e1] at x3
           exact ⟨_, rfl, x1.mod ((Mod.refl _ W1).drew.alloc _), x2.drew.alloc _, x3, fun a n c h => by injection h with h; injection h with h; rw [← h]; exact Nat.le_refl _⟩)
    · exfalso
      have := HKL.out
      omega
    · exfalso
      have := HKL.out
      omega
end Go.Proofs.YtknaaaphdjdaoaaDoor
end
section
namespace Go.Proofs.YtknaaaphdjdaoaaDoor
open Go.RowKit Mem
set_option linter.unusedVariables false
set_option linter.unusedSimpArgs false

theorem el_i : El Tryd.prog 23 3 1 8 := El.mk_ (z := .int .i64 0) Tryd.underlying23 (by kernel_rfl) rfl (by decide)
def ints (zs : List Int) : List Value := zs.map fun z => .int .i64 z
theorem ints_len (zs : List Int) : (ints zs).length = zs.length := by simp [ints]
theorem ints_app (a b : List Int) : ints (a ++ b) = ints a ++ ints b := by simp [ints]
theorem ri_own {w : World} {base : Nat} {v : Value} {zs : List Int} (h : w.ownsRow base 3 1 v zs.length (ints zs)) : RI w v zs ∧ ∀ a n c, v = .slice (some a) n c → base ≤ a.block := by
  rcases own_cases h with ⟨hv, hn, hx⟩ | ⟨g, cap, cur, hv, hg, hB, hn, hc, hs, hx⟩
  · have : zs = [] := List.eq_nil_of_length_eq_zero hn
    subst this
    exact ⟨.inl ⟨hv, rfl⟩, fun a n c h => by rw [hv] at h; cases h⟩
  · refine ⟨.inr ⟨⟨g, 0, none⟩, cap, hv, hn, hc, fun j u hj => ?_⟩, fun a n c h => by rw [hv] at h; injection h with h; injection h with h; rw [← h]; exact hg⟩
    rw [Addr.add_lit, Nat.zero_add, hB.cell]
    have hj2 : j < zs.length := (List.getElem?_eq_some_iff.1 hj).1
    have : (ints zs)[j]? = some (.int .i64 u) := by unfold ints; rw [List.getElem?_map, hj]; rfl
    rw [← hx, List.getElem?_take_of_lt (by omega)] at this
    simpa using this
theorem thn_thn {α β γ : Type} (o : Except Nat (α × Nat)) (f : α → Nat → Except Nat (β × Nat)) (g : β → Nat → Except Nat (γ × Nat)) : thn (thn o f) g = thn o fun a k => thn (f a k) g := by
  cases o <;> rfl
set_option maxRecDepth 100000 in
set_option maxHeartbeats 3200000 in
theorem nodes_any (B : Nat) (r : Nat) (bv : Value) (l : Bs) (k : Nat) (w : World) (h : Rr B w r bv l k) :
    Calls Tryd.prog 49 #[.pointer (some ⟨r, 0, none⟩)] w (Reads (fun w' v zs => RI w' v zs ∧ ∀ a n c, v = .slice (some a) n c → w.heap.size ≤ a.block) B r bv l w (nodesR l k)) := by
  have H := Lib.hid h
  have hn := number_any B r bv l k 5 (by omega) w h
  obtain ⟨O, hO⟩ : ∃ O, nodesR l k = O := ⟨_, rfl⟩
  rw [hO]
  have HO := Lib.hid hO
  clear h hO
  go_enter Tryd.func49, Tryd.ntmps49
  go_wp2_with (fail)
  refine hn.mono ?_
  intro e w1 hR
  cases hnb : nb l k 5 with
  | error p =>
    rw [hnb] at hR
    obtain ⟨rfl, hm⟩ := hR
    have e : O = .error p := by rw [← HO.out, nodesR, hnb]; rfl
    have HE := Lib.hid e
    clear e hnb hn
    go_wp2_with (fail)
    refine ⟨rfl, ?_⟩
    rw [HE.out]
    exact ⟨rfl, hm⟩
  | ok x =>
    obtain ⟨n, j⟩ := x
    rw [hnb] at hR
    obtain ⟨rfl, hr1, hm1⟩ := hR
    have hn5 := (nb_le H.out.2.2.2.1 hnb).1
    have HI := Lib.hid (And.intro hr1 hm1)
    have e : O = rowR l n j := by rw [← HO.out, nodesR, hnb]; rfl
    have HOE := Lib.hid e
    clear hn hnb hr1 hm1 e HO
    go_wp2_with (fail)
    go_loopw [3, 6] (fun v3 v6 wr => ∃ (i kk : Nat) (zs : List Int) (C : Option Addr) (cb : Nat), v3 = .slice C i cb ∧ v6 = .int .i64 (i : Int) ∧ i ≤ n ∧ Hid (zs.length = i) ∧ Hid (Rr B wr r bv l kk) ∧ Hid (Mod (· = r) w wr) ∧ Hid (wr.ownsRow w.heap.size 3 1 (.slice C i cb) i (ints zs)) ∧ Hid (rowR l n j = thn (rowR l (n - i) kk) fun zs' j' => .ok (zs ++ zs', j'))) (fun _ i _ => n - (iOf i).toNat)
    case atStart =>
      exact ⟨0, j, [], none, 0, rfl, rfl, by omega, Lib.hid rfl, Lib.hid HI.out.1, Lib.hid HI.out.2, Lib.hid (World.ownsRow_nil _ _ _ _), Lib.hid (by rw [Nat.sub_zero]; cases rowR l n j <;> rfl)⟩
    case round =>
      obtain ⟨i, kk, zs, C, cb, rfl, rfl, hi, hzl, hrr, hm, hown, hE⟩ := hrel
      by_cases hlt : i < n
      · have q1 : (i : Int) < (n : Int) := by omega
        have hn2 := number_any B r bv l kk 5 (by omega) wr hrr.out
        have hE2 := hE.out
        rw [show n - i = (n - (i + 1)) + 1 by omega, rowR, thn_thn] at hE2
        have HE := Lib.hid hE2
        clear hE hE2 HI
        go_wp2_with (fail)
        refine hn2.mono ?_
        intro e w2 hR
        cases hnb : nb l kk 5 with
        | error p =>
          rw [hnb] at hR
          obtain ⟨rfl, hm2⟩ := hR
          have hE3 := HE.out
          rw [hnb] at hE3
          have HM := Lib.hid (hm.out.trans hm2 (fun i hi => .inl hi))
          have HE3 := Lib.hid (HOE.out.trans hE3)
          clear hm2 hE3 HE hn2 hnb
          go_wp2_with (fail)
          refine ⟨rfl, ?_⟩
          rw [HE3.out]
          exact ⟨rfl, HM.out⟩
        | ok y =>
          obtain ⟨z, k2⟩ := y
          rw [hnb] at hR
          obtain ⟨rfl, hr2, hm2⟩ := hR
          have hE3 := HE.out
          rw [hnb] at hE3
          simp only [thn] at hE3
          have hBw : B ≤ w.heap.size := H.out.2.2.2.2.2.2
          have hrB : r < B := H.out.2.2.2.2.2.1
          have hown2 : w2.ownsRow w.heap.size 3 1 (.slice C i cb) i (ints zs) := own_mod hown.out hm2 (fun g hg hgr => by have := (own_lt hown.out hg).1; omega)
          obtain ⟨A2, c5, w3, hr, ho3, hmA, _, _⟩ := el_i.app1 w.heap.size i (.slice C i cb) (ints zs) (w2.alloc (.cells #[.int .i64 (z : Int)] 3)) (own_mod hown2 ((Mod.refl (fun _ => False) w2).alloc _) (fun _ _ h => h)) w2.heap.size #[.int .i64 (z : Int)] 1 (Blk.new _ _ _) rfl (by unfold maxLen; omega) (by omega) (by simp; rfl) (by have := hm.out.size; have := hm2.size; simp; omega)
          have hmx : Mod (fun b => (Value.slice C i cb).ownBlock = some b) w2 w3 := Mod.trans (T := fun b => (Value.slice C i cb).ownBlock = some b) ((Mod.refl _ w2).alloc _) hmA (fun i hi => .inl hi)
          have HR3 := Lib.hid (hr2.keep hmx (fun b hb => Nat.le_trans hBw (own_lt hown.out hb).1))
          have HM3 := Lib.hid ((hm.out.trans hm2 (fun i hi => .inl hi)).trans hmx (fun b hb => .inr (own_lt hown.out hb).1))
          have HO3 : Hid (w3.ownsRow w.heap.size 3 1 (.slice A2 (i + 1) c5) (i + 1) (ints (zs ++ [(z : Int)]))) := Lib.hid (by rw [ints_app]; exact ho3)
          have HE4 : Hid (rowR l n j = thn (rowR l (n - (i + 1)) k2) fun zs' j' => .ok ((zs ++ [(z : Int)]) ++ zs', j')) := Lib.hid (by
            rw [hE3]
            cases rowR l (n - (i + 1)) k2 with
            | error p => rfl
            | ok y => simp [thn])
          have HZ : Hid ((zs ++ [(z : Int)]).length = i + 1) := Lib.hid (by rw [List.length_append, hzl.out]; rfl)
          clear hn2 hnb hr2 hm2 hE3 hown2 ho3 hmA hmx HE hown hm hrr hzl hBw hrB
          go_wp2_with (at_builtin; refine wpList_append_run rfl _ _ 23 23 rfl _ _ rfl rfl hr ?_)
          refine ⟨⟨i + 1, k2, zs ++ [(z : Int)], A2, c5, rfl, by simp, by omega, HZ, HR3, HM3, HO3, HE4⟩, ?_⟩
          simp only [iOf]
          omega
      · have q1 : ¬ (i : Int) < (n : Int) := by omega
        have hE2 := hE.out
        rw [show n - i = 0 by omega] at hE2
        simp only [rowR, thn, List.append_nil] at hE2
        have HE := Lib.hid hE2
        clear hE hE2 HI
        go_wp2_with (fail)
        go_ret
        rw [HOE.out, HE.out]
        have hown2 := hown.out
        rw [← hzl.out] at hown2
        have := ri_own hown2
        rw [hzl.out] at this
        exact ⟨_, rfl, hrr.out, hm.out, this⟩
end Go.Proofs.YtknaaaphdjdaoaaDoor
end
