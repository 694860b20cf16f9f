/-
  Tenants, the code's and the document's.
-/
import Derived.Test.YtpbdcjgconopnaaTa
namespace Go.Proofs.Ytpbdcjgconopnaa
open Go.RowKit Mem
set_option linter.unusedVariables false

theorem info9 : (Try.prog.info? 9).map (fun i => (i.zero, i.size, i.bytes)) = some (some (.string ⟨#[]⟩), 1, 16) := by kernel_rfl
theorem el37 : El Try.prog 37 9 1 16 := El.mk_ (z := .string ⟨#[]⟩) Try.underlying37 info9 (by kernel_rfl) (by decide)
/-- Those in which somebody may read. -/
def tl (l : List Gr) (u : Bs) (ss : List Bs) : List Bs := ss.filter fun s => decide (1 ≤ mayB l s u)
theorem tl_snoc (l : List Gr) (u : Bs) (ss : List Bs) (k : Nat) (hk : k < ss.length) : tl l u (ss.take (k + 1)) = if 1 ≤ mayB l ss[k] u then tl l u (ss.take k) ++ [ss[k]] else tl l u (ss.take k) := by
  unfold tl
  rw [List.take_succ_eq_append_getElem hk, List.filter_append]
  by_cases h : 1 ≤ mayB l ss[k] u
  · simp [h]
  · simp [h]
theorem tl_len (l : List Gr) (u : Bs) (ss : List Bs) (k : Nat) : (tl l u (ss.take k)).length ≤ ss.length := by
  unfold tl
  exact Nat.le_trans (List.length_filter_le _ _) (by rw [List.length_take]; omega)
theorem strv_snoc (a : List Bs) (s : Bs) : strv (a ++ [s]) = strv a ++ [.string (sv s)] := by simp [strv]
/-- What is answered. -/
def Told (l : List Gr) (u : Bs) (ss : List Bs) (w : World) (e : Ending) (w' : World) : Prop := ∃ v, e = .returned v ∧ w'.ownsRow w.heap.size 9 1 v (tl l u ss).length (strv (tl l u ss)) ∧ Mod (fun _ => False) w w'
theorem mayc_b {v : Value} {l : List Gr} (t u : Bs) {x : Int} (w : World) (h : Gs w v l) (hg : Goks l) (ht : t.length ≤ 9223372036854775807) (hu : u.length ≤ 9223372036854775807) (hx : mayB l t u = x) : Calls Try.prog 20 #[v, .string (sv t), .string (sv u)] w fun e w' => e = .returned (.int .i64 x) ∧ Mod (fun _ => False) w w' := by
  rw [← hx]; exact rmayb_any v l t u w h hg ht hu
theorem maya_b {v : Value} {l : List Gr} (t u : Bs) {x : Int} (w : World) (h : Gs w v l) (hg : Goks l) (ht : t.length ≤ 9223372036854775807) (hu : u.length ≤ 9223372036854775807) (hx : mayB l t u = x) : Calls Try.prog 10 #[v, .string (sv t), .string (sv u)] w fun e w' => e = .returned (.int .i64 x) ∧ Mod (fun _ => False) w w' := may_b t u w h hg hu hx

set_option maxRecDepth 100000 in
set_option maxHeartbeats 6400000 in
theorem ten_any (v va : Value) (l : List Gr) (ss : List Bs) (u : Bs) (w : World) (h : Gs w v l) (hg : Goks l) (ha : Sr w va ss) (hss : ss.length ≤ 1000) (hb : ∀ s ∈ ss, s.length ≤ 9223372036854775807) (hu : u.length ≤ 9223372036854775807) :
    Calls Try.prog 16 #[v, va, .string (sv u)] w (Told l u ss w) := by
  obtain ⟨A, c, rfl, hlc, hcm, hA⟩ := ha.form
  unfold maxLen at hcm
  have HA := Lib.hid hA
  have HG := Lib.hid h
  have HK := Lib.hid hg
  have HR := Lib.hid ha
  have HB := Lib.hid hb
  clear hA h hg ha hb
  have H0 : Hid (w.ownsRow w.heap.size 9 1 (.slice none 0 0) (tl l u (ss.take 0)).length (strv (tl l u (ss.take 0)))) := Lib.hid (World.ownsRow_nil _ _ _ _)
  have HM0 : Hid (Mod (fun _ => False) w w) := Lib.hid (Mod.refl _ _)
  go_enter Try.func16, Try.ntmps16
  go_wp2
  go_loopw [7, 9, 12] (fun x _ i wr => ∃ k : Nat, i = .int .i64 k ∧ k ≤ ss.length ∧ Hid (wr.ownsRow w.heap.size 9 1 x (tl l u (ss.take k)).length (strv (tl l u (ss.take k)))) ∧ Hid (Mod (fun _ => False) w wr)) (fun _ _ i _ => ss.length - (intOf i).toNat)
  case atStart => exact ⟨0, rfl, by omega, H0, HM0⟩
  case round =>
    obtain ⟨k, rfl, hk, hO, hM⟩ := hrel
    by_cases hlt : k < ss.length
    · rcases HA.out with h | ⟨ad, rfl⟩
      · omega
      have c0 := (HR.out.new hM.out).at_ k hlt
      have hq1 : (k : Int) < (ss.length : Int) := by omega
      have Hs := Lib.hid (tl_snoc l u ss k hlt)
      have Hlen := Lib.hid (tl_len l u ss k)
      have hbk := HB.out _ (List.getElem_mem hlt)
      generalize ss[k] = s at *
      generalize tl l u (ss.take k) = done at *
      go_wp2_with (fail)
      refine (maya_b s u wr (HG.out.new hM.out) HK.out hbk hu (x := mayB l s u) rfl).mono ?_
      rintro e w2 ⟨rfl, hm2⟩
      have HM2 : Hid (Mod (fun _ => False) w w2) := Lib.hid (hM.out.trans hm2 (fun _ h => h.elim))
      have HO2 := Lib.hid (own_mod hO.out hm2 (fun _ _ h => h))
      have c1 := cell_keep hm2 c0 (fun h => h)
      clear c0 hm2 hO hM
      by_cases h1 : 1 ≤ mayB l s u
      · have Hn : Hid (tl l u (ss.take (k + 1)) = done ++ [s]) := Lib.hid (by rw [Hs.out, if_pos h1])
        have hV := Blk.new w2 #[.string (sv s)] 9
        have hal : Mod (fun _ => False) w2 (w2.alloc (.cells #[.string (sv s)] 9)) := (Mod.refl _ _).alloc _
        obtain ⟨A5, k5, w5, hr, ho5, hm5, _, _⟩ := el37.app1 w.heap.size done.length _ (strv done) _ (own_mod HO2.out hal (fun _ _ h => h)) w2.heap.size #[.string (sv s)] 1 hV rfl (by have := Hlen.out; unfold maxLen; omega) (by have := Hlen.out; omega) (fun u hu => by
          have : u = .string (sv s) := by simpa using hu
          rw [this]; rfl) (Nat.le_trans HM2.out.size hal.size)
        have HO5 : Hid (w5.ownsRow w.heap.size 9 1 (.slice A5 (done.length + 1) k5) (tl l u (ss.take (k + 1))).length (strv (tl l u (ss.take (k + 1))))) := Lib.hid (by rw [Hn.out, strv_snoc, List.length_append]; exact ho5)
        have HM5 : Hid (Mod (fun _ => False) w w5) := Lib.hid ((HM2.out.trans hal (fun _ h => h.elim)).trans hm5 (fun b hb => .inr (own_lt HO2.out hb).1))
        clear hV hal ho5 hm5 Hs HO2 HM2
        go_wp2_with (at_builtin; refine wpList_append_run rfl _ _ 37 37 rfl _ _ rfl rfl hr ?_)
        go_roundw
        case rel => exact ⟨k + 1, by go_num, by omega, HO5, HM5⟩
        case measure => simp [intOf]; omega
      · have Hn : Hid (w2.ownsRow w.heap.size 9 1 u7 (tl l u (ss.take (k + 1))).length (strv (tl l u (ss.take (k + 1))))) := Lib.hid (by rw [Hs.out, if_neg h1]; exact HO2.out)
        clear Hs HO2
        go_wp2
        go_roundw
        case rel => exact ⟨k + 1, by go_num, by omega, Hn, HM2⟩
        case measure => simp [intOf]; omega
    · obtain rfl : k = ss.length := by omega
      have Hfin : Hid (Told l u ss w (.returned u7) wr) := Lib.hid ⟨u7, rfl, by have := hO.out; rwa [List.take_length] at this, hM.out⟩
      clear hO hM
      go_wp2
      go_ret
      exact Hfin.out

set_option maxRecDepth 100000 in
set_option maxHeartbeats 6400000 in
theorem rten_any (v va : Value) (l : List Gr) (ss : List Bs) (u : Bs) (w : World) (h : Gs w v l) (hg : Goks l) (ha : Sr w va ss) (hss : ss.length ≤ 1000) (hb : ∀ s ∈ ss, s.length ≤ 9223372036854775807) (hu : u.length ≤ 9223372036854775807) :
    Calls Try.prog 18 #[v, va, .string (sv u)] w (Told l u ss w) := by
  obtain ⟨A, c, rfl, hlc, hcm, hA⟩ := ha.form
  unfold maxLen at hcm
  have HA := Lib.hid hA
  have HG := Lib.hid h
  have HK := Lib.hid hg
  have HR := Lib.hid ha
  have HB := Lib.hid hb
  clear hA h hg ha hb
  have H0 : Hid (w.ownsRow w.heap.size 9 1 (.slice none 0 0) (tl l u (ss.take 0)).length (strv (tl l u (ss.take 0)))) := Lib.hid (World.ownsRow_nil _ _ _ _)
  have HM0 : Hid (Mod (fun _ => False) w w) := Lib.hid (Mod.refl _ _)
  go_enter Try.func18, Try.ntmps18
  go_wp2
  go_loopw [7, 8] (fun x i wr => ∃ k : Nat, i = .int .i64 k ∧ k ≤ ss.length ∧ Hid (wr.ownsRow w.heap.size 9 1 x (tl l u (ss.take k)).length (strv (tl l u (ss.take k)))) ∧ Hid (Mod (fun _ => False) w wr)) (fun _ i _ => ss.length - (intOf i).toNat)
  case atStart => exact ⟨0, rfl, by omega, H0, HM0⟩
  case round =>
    obtain ⟨k, rfl, hk, hO, hM⟩ := hrel
    by_cases hlt : k < ss.length
    · rcases HA.out with h | ⟨ad, rfl⟩
      · omega
      have c0 := (HR.out.new hM.out).at_ k hlt
      have hq1 : (k : Int) < (ss.length : Int) := by omega
      have Hs := Lib.hid (tl_snoc l u ss k hlt)
      have Hlen := Lib.hid (tl_len l u ss k)
      have hbk := HB.out _ (List.getElem_mem hlt)
      generalize ss[k] = s at *
      generalize tl l u (ss.take k) = done at *
      go_wp2_with (fail)
      refine (mayc_b s u wr (HG.out.new hM.out) HK.out hbk hu (x := mayB l s u) rfl).mono ?_
      rintro e w2 ⟨rfl, hm2⟩
      have HM2 : Hid (Mod (fun _ => False) w w2) := Lib.hid (hM.out.trans hm2 (fun _ h => h.elim))
      have HO2 := Lib.hid (own_mod hO.out hm2 (fun _ _ h => h))
      have c1 := cell_keep hm2 c0 (fun h => h)
      clear c0 hm2 hO hM
      by_cases h1 : 1 ≤ mayB l s u
      · have Hn : Hid (tl l u (ss.take (k + 1)) = done ++ [s]) := Lib.hid (by rw [Hs.out, if_pos h1])
        have hV := Blk.new w2 #[.string (sv s)] 9
        have hal : Mod (fun _ => False) w2 (w2.alloc (.cells #[.string (sv s)] 9)) := (Mod.refl _ _).alloc _
        obtain ⟨A5, k5, w5, hr, ho5, hm5, _, _⟩ := el37.app1 w.heap.size done.length _ (strv done) _ (own_mod HO2.out hal (fun _ _ h => h)) w2.heap.size #[.string (sv s)] 1 hV rfl (by have := Hlen.out; unfold maxLen; omega) (by have := Hlen.out; omega) (fun u hu => by
          have : u = .string (sv s) := by simpa using hu
          rw [this]; rfl) (Nat.le_trans HM2.out.size hal.size)
        have HO5 : Hid (w5.ownsRow w.heap.size 9 1 (.slice A5 (done.length + 1) k5) (tl l u (ss.take (k + 1))).length (strv (tl l u (ss.take (k + 1))))) := Lib.hid (by rw [Hn.out, strv_snoc, List.length_append]; exact ho5)
        have HM5 : Hid (Mod (fun _ => False) w w5) := Lib.hid ((HM2.out.trans hal (fun _ h => h.elim)).trans hm5 (fun b hb => .inr (own_lt HO2.out hb).1))
        clear hV hal ho5 hm5 Hs HO2 HM2
        go_wp2_with (at_builtin; refine wpList_append_run rfl _ _ 37 37 rfl _ _ rfl rfl hr ?_)
        go_roundw
        case rel => exact ⟨k + 1, by go_num, by omega, HO5, HM5⟩
        case measure => simp [intOf]; omega
      · have Hn : Hid (w2.ownsRow w.heap.size 9 1 u7 (tl l u (ss.take (k + 1))).length (strv (tl l u (ss.take (k + 1))))) := Lib.hid (by rw [Hs.out, if_neg h1]; exact HO2.out)
        clear Hs HO2
        go_wp2
        go_roundw
        case rel => exact ⟨k + 1, by go_num, by omega, Hn, HM2⟩
        case measure => simp [intOf]; omega
    · obtain rfl : k = ss.length := by omega
      have Hfin : Hid (Told l u ss w (.returned u7) wr) := Lib.hid ⟨u7, rfl, by have := hO.out; rwa [List.take_length] at this, hM.out⟩
      clear hO hM
      go_wp2
      go_ret
      exact Hfin.out
end Go.Proofs.Ytpbdcjgconopnaa
