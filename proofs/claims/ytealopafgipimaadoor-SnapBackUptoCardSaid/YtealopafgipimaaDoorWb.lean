/-
  SnapBack's walk.
-/
import Derived.Test.YtealopafgipimaaDoorWa
namespace Go.Proofs.YtealopafgipimaaDoor
open Go.RowKit Mem
set_option linter.unusedVariables false
set_option linter.unusedSimpArgs false

theorem Rd.src {w : World} {v : Value} {l : Bs} (h : Rd w v l) : Src Tryd.prog 1 22 v l.length (bts l) w := by
  rcases h with ⟨rfl, rfl⟩ | ⟨x, c, rfl, hc⟩
  · exact Src.ofNil w Tryd.underlying22 0
  · exact Src.ofSlice w Tryd.underlying22 x l.length c (bts l) (by rw [bts_len, Nat.mul_one]) hc (fun u hu => by
      simp only [bts, List.mem_map] at hu
      obtain ⟨z, _, rfl⟩ := hu
      rfl)
theorem RdC.take {w : World} {x : Addr} {n c : Nat} {l : Bs} (h : RdC w (.slice (some x) n c) l) (k : Nat) (hk : k ≤ n) : RdC w (.slice (some x) k c) (l.take k) := by
  have hn := h.len
  have e : RdC w (.slice (some x) n c) (l.take k ++ l.drop k) := by rw [List.take_append_drop]; exact h
  have := e.front
  rwa [List.length_take, Nat.min_eq_left (by omega)] at this
/-- append([]byte{}, b...), as bytes of the call's own: more of them. -/
theorem copy_big (w : World) (v : Value) (l : Bs) (h : Rd w v l) (hl : l.length ≤ 4194304) :
    ∃ A c w', (Builtin.append_ #[22, 22] 22 #[.slice (some ⟨w.heap.size, 0, none⟩) 0 0, v]).run Tryd.prog (w.alloc (.cells #[] 5)) = .ok (.slice A l.length c) w' ∧ Ob w w' (.slice A l.length c) l ∧ Mod (fun _ => False) w w' := by
  have hal : Mod (fun _ => False) w (w.alloc (.cells #[] 5)) := (Mod.refl _ w).alloc _
  have hown0 : (w.alloc (.cells #[] 5)).ownsRow w.heap.size 5 1 (.slice (some ⟨w.heap.size, 0, none⟩) 0 0) 0 [] :=
    own_of (Blk.new w #[] 5) (Nat.le_refl _) (Nat.le_refl _) (Nat.zero_le _) (by simp) (by simp)
  have hR := h.mod hal
  rcases hR with ⟨rfl, rfl⟩ | ⟨x, c, rfl, hc⟩
  · exact ⟨_, _, _, el5.app_none w.heap.size 0 _ [] _ hown0, ob_own hown0, hal⟩
  · obtain ⟨A1, k1, w1, hr1, ho1, hm1, hv1, hs1⟩ := el5.app w.heap.size 0 _ [] _ hown0 x l.length c (bts l) (by unfold maxLen; omega) (by omega) (by rw [bts_len, Nat.mul_one]) hc (fun u hu => by
      simp only [bts, List.mem_map] at hu
      obtain ⟨z, _, rfl⟩ := hu
      rfl) hal.size
    rw [Nat.zero_add] at hr1 ho1
    exact ⟨A1, k1, w1, hr1, ob_own ho1, hal.trans (T := fun b => b = w.heap.size) (hm1.mono (fun b hb => by simpa [Value.ownBlock, eq_comm] using hb)) (fun i hi => .inr (by omega))⟩
/-- append(append([]byte{}, b...), behind...). -/
theorem two_app (w : World) (v x : Value) (l m : Bs) (h : Rd w v l) (hx : Rd w x m) (hl : l.length ≤ 4194304) (hm : m.length ≤ 1048576) (hne : l ≠ []) :
    ∃ A c w1 B d w2, (Builtin.append_ #[22, 22] 22 #[.slice (some ⟨w.heap.size, 0, none⟩) 0 0, v]).run Tryd.prog (w.alloc (.cells #[] 5)) = .ok (.slice A l.length c) w1 ∧ (Builtin.append_ #[22, 22] 22 #[.slice A l.length c, x]).run Tryd.prog w1 = .ok (.slice B (l.length + m.length) d) w2 ∧ RdC w2 (.slice B (l.length + m.length) d) (l ++ m) ∧ Mod (fun _ => False) w w2 := by
  obtain ⟨A, c, w1, h1, h2, h3⟩ := copy_big w v l h hl
  obtain ⟨B, d, w2, h4, h5, h6⟩ := h2.appS (m := m) h3 (.inr hne) (by omega) (hx.mod h3).src
  exact ⟨A, c, w1, B, d, w2, h1, h4, h5.rd, h6⟩
theorem back_put (w : World) (N : Nat) (hN : N < 18446744073709551616) : Calls Tryd.prog 12 #[.slice none 0 0, .int .u64 (N : Int)] w fun e w' => ∃ x k c, e = .returned (.slice (some x) k c) ∧ k = (pn N).length ∧ RdC w' (.slice (some x) k c) (pn N) ∧ Mod (fun _ => False) w w' :=
  (putnum_any none 0 0 [] N w rfl (by omega) (.inl ⟨rfl, rfl⟩) hN).mono fun e w' ⟨v, he, hO, hm⟩ => by
    rw [List.nil_append] at hO
    obtain ⟨A, c, hv⟩ := hO.val
    subst hv
    rcases hO with ⟨_, h0⟩ | ⟨g, hg, cap, cur, hv, hF⟩
    · have := (pn_len N).1; rw [h0] at this; simp at this
    · injection hv with h1 _ h3
      subst h1 h3
      exact ⟨_, _, _, he, rfl, (Ob.rd (w0 := w) (.inr ⟨g, hg, _, cur, rfl, hF⟩)), hm⟩
theorem back_text (w : World) (s : Bs) (hs : s.length ≤ 1048576) : Calls Tryd.prog 13 #[.slice none 0 0, .string (sv s)] w fun e w' => ∃ x k c, e = .returned (.slice (some x) k c) ∧ k = (pn s.length ++ s).length ∧ RdC w' (.slice (some x) k c) (pn s.length ++ s) ∧ Mod (fun _ => False) w w' :=
  (puttext_any none 0 0 [] s w rfl (by omega) hs (.inl ⟨rfl, rfl⟩)).mono fun e w' ⟨v, he, hO, hm⟩ => by
    rw [List.nil_append] at hO
    obtain ⟨A, c, hv⟩ := hO.val
    subst hv
    rcases hO with ⟨_, h0⟩ | ⟨g, hg, cap, cur, hv, hF⟩
    · have := (pn_len s.length).1; have h1 := congrArg List.length h0; rw [List.length_append, List.length_nil] at h1; omega
    · injection hv with h1 _ h3
      subst h1 h3
      exact ⟨_, _, _, he, rfl, (Ob.rd (w0 := w) (.inr ⟨g, hg, _, cur, rfl, hF⟩)), hm⟩
set_option maxRecDepth 100000 in
set_option maxHeartbeats 3200000 in
theorem snapBack_walk (N : Nat) (s : Bs) (A : Option Addr) (n c : Nat) (l : Bs) (cut : Int) (w : World) (hl : l.length ≤ 1048576) (hs : s.length ≤ 1048576) (hN : N < 18446744073709551616) (hm : -9223372036854775808 ≤ cut ∧ cut ≤ 9223372036854775807) (hin : RdC w (.slice A n c) l) (hg : ErrT w) :
    Calls Tryd.prog 4 #[.int .u64 (N : Int), .string (sv s), .slice A n c, .int .i64 cut] w fun e w' => e = .returned (.bool true) ∧ Mod (fun _ => False) w w' := by
  have hn := hin.len
  have HCUT := Lib.hid hm
  go_enter Tryd.func4, Tryd.ntmps4
  go_wp2_with (fail)
  refine (shown_any w hg).mono ?_
  rintro e w1 ⟨rfl, hm1⟩
  have H1 := Lib.hid hm1
  clear hm1
  go_wp2_with (fail)
  refine (back_put w1 N hN).mono ?_
  rintro e w2 ⟨x2, k2, c2, rfl, hk2, hr2, hm2⟩
  have hpl := pn_len N
  rw [← hk2] at hpl
  have hpne : pn N ≠ [] := by intro e; rw [e] at hk2; simp at hk2; omega
  obtain ⟨A3, c3, w3, B3, d3, w3', a3, b3, R3, hm3⟩ := two_app w2 _ _ (pn N) l hr2.1 (hin.mod (md_then H1.out hm2)).1 (by omega) hl hpne
  rw [← hk2] at a3 b3 R3
  rw [hn] at b3 R3
  have M3 := Lib.hid (md_then H1.out (md_then hm2 hm3))
  have R2 := Lib.hid (hr2.mod hm3)
  have HR3 := Lib.hid R3
  have HK2 := Lib.hid hk2
  have g3 := gn_pn N hN l
  rw [← hk2] at g3
  clear hm2 hm3 R3 H1 hr2 hk2 hpne
  go_wp2_with (at_builtin; first | refine wpList_append_run rfl _ _ 22 22 rfl _ _ rfl rfl a3 ?_ | refine wpList_append_run rfl _ _ 22 22 rfl _ _ rfl rfl b3 ?_)
  have g := getnum_rd HR3.out
  rw [g3] at g
  refine g.mono ?_
  rintro e w4 ⟨rfl, rfl⟩
  clear g a3 b3 g3
  go_wp2_with (fail)
  refine (back_text w4 s hs).mono ?_
  rintro e w5 ⟨x5, k5, c5, rfl, hk5, hr5, hm5⟩
  have hsl : (pn s.length ++ s).length = (pn s.length).length + s.length := List.length_append ..
  have hpl5 := pn_len s.length
  have hk5b : 1 ≤ k5 ∧ k5 ≤ 1048587 := by omega
  have htne : pn s.length ++ s ≠ [] := by intro e; rw [e] at hk5; simp at hk5; omega
  obtain ⟨A6, c6, w6, B6, d6, w6', a6, b6, R6, hm6⟩ := two_app w5 _ _ (pn s.length ++ s) l hr5.1 (hin.mod (md_then M3.out hm5)).1 (by omega) hl htne
  rw [← hk5] at a6 b6 R6
  rw [hn] at b6 R6
  have M6 := Lib.hid (md_then M3.out (md_then hm5 hm6))
  have R5 := Lib.hid (And.intro (hr5.mod hm6) (R2.out.mod (md_then hm5 hm6)))
  have hs64 : s.length < 18446744073709551616 := by omega
  have e6 := gt_pn s l (s.length : Int) hs64 (Int.le_refl _)
  rw [← hsl, ← hk5] at e6
  have e7 := gt_short s hs64
  have HP := Lib.hid (fun (k : Nat) (h : k < k5) => gt_part s k (s.length : Int) hs64 (by rw [← hk5]; exact h))
  have HQ := Lib.hid (fun (k : Nat) (h : k < k2) => gn_part N k (by rw [← HK2.out]; exact h))
  have g6 := gettext_any _ _ _ _ (s.length : Int) w6' R6.len R6 (by omega)
  rw [e6] at g6
  have g7 := gettext_any _ _ _ _ ((s.length : Int) - 1) w6' R5.out.1.len R5.out.1 (by omega)
  rw [e7] at g7
  have hsz : ((sv s).size : Int) = (s.length : Int) := rfl
  have hwr : IntKind.i64.wrap ((s.length : Int) - 1) = (s.length : Int) - 1 := by rw [IntKind.wrap_i64]; omega
  have HPL := Lib.hid hpl
  have HKB := Lib.hid hk5b
  clear hm5 hm6 R6 M3 hr5 hk5 htne e6 e7 hsl hpl5 R2 hn hin hg hm HK2 HR3 hpl hk5b
  go_wp2_with (at_builtin; first | refine wpList_append_run rfl _ _ 22 22 rfl _ _ rfl rfl a6 ?_ | refine wpList_append_run rfl _ _ 22 22 rfl _ _ rfl rfl b6 ?_)
  refine g6.mono ?_
  rintro e w7 ⟨rfl, rfl⟩
  clear g6 a6 b6
  go_wp2_with (fail)
  refine g7.mono ?_
  rintro e w8 ⟨rfl, rfl⟩
  clear g7
  have tsv : (sv s).toList = s := sv_toList s
  have hk2z : ((k2 : Int) == 0) = false := by have := HPL.out; simp; omega
  have hk5z : ((k5 : Int) == 0) = false := by have := HKB.out; simp; omega
  have hk2y : ¬ k2 = 0 := by have := HPL.out; omega
  have hk5y : ¬ k5 = 0 := by have := HKB.out; omega
  have hK2c : k2 ≤ c2 := by
    obtain ⟨_, A', c', hv, h1, h2⟩ := R5.out.2
    have h3 := R5.out.2.len
    injection hv with _ e2 e3
    omega
  have hK5c : k5 ≤ c5 := by
    obtain ⟨_, A', c', hv, h1, h2⟩ := R5.out.1
    have h3 := R5.out.1.len
    injection hv with _ e2 e3
    omega
  by_cases hcut : cut < 0
  · obtain ⟨C, hC⟩ : ∃ C : Nat, wrap64 (-wrap64 (cut + 1)) = (C : Int) := ⟨(wrap64 (-wrap64 (cut + 1))).toNat, by have := HCUT.out; unfold wrap64 at *; omega⟩
    obtain ⟨u, hu⟩ : ∃ u, C % k2 = u := ⟨_, rfl⟩
    obtain ⟨t, ht⟩ : ∃ t, C % k5 = t := ⟨_, rfl⟩
    have hul : u < k2 := by rw [← hu]; exact Nat.mod_lt _ (by have := HPL.out; omega)
    have htl : t < k5 := by rw [← ht]; exact Nat.mod_lt _ (by have := HKB.out; omega)
    have m2 : (wrap64 (-wrap64 (cut + 1))).tmod (k2 : Int) = (u : Int) := by rw [hC, Int.tmod_eq_emod_of_nonneg (by omega), ← Int.natCast_emod, hu]
    have m5 : (wrap64 (-wrap64 (cut + 1))).tmod (k5 : Int) = (t : Int) := by rw [hC, Int.tmod_eq_emod_of_nonneg (by omega), ← Int.natCast_emod, ht]
    have uc : (u : Int) ≤ (c2 : Int) := by omega
    have tc : (t : Int) ≤ (c5 : Int) := by omega
    have gu := getnum_rd (R5.out.2.take u (by omega))
    rw [HQ.out u hul] at gu
    have gt_ := gettext_any _ _ _ _ (s.length : Int) w8 (R5.out.1.take t (by omega)).len (R5.out.1.take t (by omega)) (by omega)
    rw [HP.out t htl] at gt_
    clear hC hu ht hul htl hK2c hK5c
    go_wp2_with (fail)
    refine gu.mono ?_
    rintro e w9 ⟨rfl, rfl⟩
    go_wp2_with (fail)
    refine gt_.mono ?_
    rintro e w10 ⟨rfl, rfl⟩
    go_wp2_with (fail)
    go_ret
    exact ⟨rfl, M6.out⟩
  · obtain ⟨C, hC⟩ : ∃ C : Nat, cut = (C : Int) := ⟨(cut).toNat, by have := HCUT.out; unfold wrap64 at *; omega⟩
    obtain ⟨u, hu⟩ : ∃ u, C % k2 = u := ⟨_, rfl⟩
    obtain ⟨t, ht⟩ : ∃ t, C % k5 = t := ⟨_, rfl⟩
    have hul : u < k2 := by rw [← hu]; exact Nat.mod_lt _ (by have := HPL.out; omega)
    have htl : t < k5 := by rw [← ht]; exact Nat.mod_lt _ (by have := HKB.out; omega)
    have m2 : (cut).tmod (k2 : Int) = (u : Int) := by rw [hC, Int.tmod_eq_emod_of_nonneg (by omega), ← Int.natCast_emod, hu]
    have m5 : (cut).tmod (k5 : Int) = (t : Int) := by rw [hC, Int.tmod_eq_emod_of_nonneg (by omega), ← Int.natCast_emod, ht]
    have uc : (u : Int) ≤ (c2 : Int) := by omega
    have tc : (t : Int) ≤ (c5 : Int) := by omega
    have gu := getnum_rd (R5.out.2.take u (by omega))
    rw [HQ.out u hul] at gu
    have gt_ := gettext_any _ _ _ _ (s.length : Int) w8 (R5.out.1.take t (by omega)).len (R5.out.1.take t (by omega)) (by omega)
    rw [HP.out t htl] at gt_
    clear hC hu ht hul htl hK2c hK5c
    go_wp2_with (fail)
    refine gu.mono ?_
    rintro e w9 ⟨rfl, rfl⟩
    go_wp2_with (fail)
    refine gt_.mono ?_
    rintro e w10 ⟨rfl, rfl⟩
    go_wp2_with (fail)
    go_ret
    exact ⟨rfl, M6.out⟩
end Go.Proofs.YtealopafgipimaaDoor
