/-
  Right.
-/
import Derived.Test.YtpbdcjgconopnaaAb
import Derived.Test.YtpbdcjgconopnaaCalm
namespace Go.Proofs.Ytpbdcjgconopnaa
open Go.RowKit Mem
set_option linter.unusedVariables false

instance : Inhabited Gr := ⟨⟨[], [], 0⟩⟩
/-- A slice of grants that reads as a list, wherever it lies. -/
def Gs (w : World) (v : Value) (l : List Gr) : Prop := (v = .slice none 0 0 ∧ l = []) ∨ ∃ ad c, v = .slice (some ad) l.length c ∧ l.length ≤ c ∧ c ≤ maxLen ∧
  ∀ i (h : i < l.length), w.cell? (ad.add (i * 3)) = some (.string (sv l[i].t)) ∧ w.cell? ⟨(ad.add (i * 3)).block, (ad.add (i * 3)).off + 1, none⟩ = some (.string (sv l[i].w)) ∧ w.cell? ⟨(ad.add (i * 3)).block, (ad.add (i * 3)).off + 2, none⟩ = some (.int .i64 l[i].r)
theorem Gs.mod {S : Nat → Prop} {w w' : World} {v : Value} {l : List Gr} (h : Gs w v l) (hm : Mod S w w') (hS : ∀ i, i < w.heap.size → ¬ S i) : Gs w' v l := by
  rcases h with h | ⟨ad, c, rfl, h1, h2, hc⟩
  · exact .inl h
  · refine .inr ⟨ad, c, rfl, h1, h2, fun i hi => ?_⟩
    obtain ⟨a, b, d⟩ := hc i hi
    exact ⟨cell_keep hm a (hS _ (World.block_lt_of_cell? w _ a)), cell_keep hm b (hS _ (World.block_lt_of_cell? w _ b)), cell_keep hm d (hS _ (World.block_lt_of_cell? w _ d))⟩
theorem Gs.new {w w' : World} {v : Value} {l : List Gr} (h : Gs w v l) (hm : Mod (fun _ => False) w w') : Gs w' v l := h.mod hm (fun _ _ h => h)
theorem Gs.form {w : World} {v : Value} {l : List Gr} (h : Gs w v l) : ∃ A c, v = .slice A l.length c ∧ l.length ≤ c ∧ c ≤ maxLen ∧ (l.length = 0 ∨ ∃ ad, A = some ad) := by
  rcases h with ⟨rfl, rfl⟩ | ⟨ad, c, rfl, h1, h2, _⟩
  · exact ⟨none, 0, rfl, Nat.le_refl _, Nat.zero_le _, .inl rfl⟩
  · exact ⟨_, c, rfl, h1, h2, .inr ⟨ad, rfl⟩⟩
theorem Gs.at_ {w : World} {ad : Addr} {n c : Nat} {l : List Gr} (h : Gs w (.slice (some ad) n c) l) (i : Nat) (hi : i < l.length) : w.cell? (ad.add (i * 3)) = some (.string (sv l[i].t)) ∧ w.cell? ⟨(ad.add (i * 3)).block, (ad.add (i * 3)).off + 1, none⟩ = some (.string (sv l[i].w)) ∧ w.cell? ⟨(ad.add (i * 3)).block, (ad.add (i * 3)).off + 2, none⟩ = some (.int .i64 l[i].r) := by
  rcases h with ⟨h, rfl⟩ | ⟨ad', c', hv, h1, h2, hc⟩
  · cases h
  · injection hv with e1 e2 e3
    injection e1 with e1
    subst e1
    exact hc i hi

theorem keep3 {w w' : World} {p1 p2 p3 : Addr} {u1 u2 u3 : Value} (h : w.cell? p1 = some u1 ∧ w.cell? p2 = some u2 ∧ w.cell? p3 = some u3) (hm : Mod (fun _ => False) w w') : w'.cell? p1 = some u1 ∧ w'.cell? p2 = some u2 ∧ w'.cell? p3 = some u3 :=
  ⟨cell_keep hm h.1 (fun h => h), cell_keep hm h.2.1 (fun h => h), cell_keep hm h.2.2 (fun h => h)⟩
theorem keep6 {w w' : World} {p1 p2 p3 p4 p5 p6 : Addr} {u1 u2 u3 u4 u5 u6 : Value} (h : w.cell? p1 = some u1 ∧ w.cell? p2 = some u2 ∧ w.cell? p3 = some u3 ∧ w.cell? p4 = some u4 ∧ w.cell? p5 = some u5 ∧ w.cell? p6 = some u6) (hm : Mod (fun _ => False) w w') : w'.cell? p1 = some u1 ∧ w'.cell? p2 = some u2 ∧ w'.cell? p3 = some u3 ∧ w'.cell? p4 = some u4 ∧ w'.cell? p5 = some u5 ∧ w'.cell? p6 = some u6 :=
  ⟨cell_keep hm h.1 (fun h => h), cell_keep hm h.2.1 (fun h => h), cell_keep hm h.2.2.1 (fun h => h), cell_keep hm h.2.2.2.1 (fun h => h), cell_keep hm h.2.2.2.2.1 (fun h => h), cell_keep hm h.2.2.2.2.2 (fun h => h)⟩
theorem fine_b {g : Gr} (hg : Gok g) {b : Bool} (hb : fineB g = b) (w : World) : Calls Try.prog 21 #[.agg #[.string (sv g.t), .string (sv g.w), .int .i64 g.r]] w fun e w' => e = .returned (.bool b) ∧ Mod (fun _ => False) w w' := by
  rw [← hb]; exact fine_any g w hg
theorem cmp_b (f g : Gr) (w : World) : Calls Try.prog 24 #[.agg #[.string (sv f.t), .string (sv f.w), .int .i64 f.r], .agg #[.string (sv g.t), .string (sv g.w), .int .i64 g.r]] w fun e w' => e = .returned (.int .i64 (cmpG f g)) ∧ Mod (fun _ => False) w w' := cmp_any f g w

/-- Is the grant at a place right, and above the one ahead? -/
def okAt (l : List Gr) (i : Nat) : Bool := fineB l[i]! && decide (1 ≤ l[i]!.r ∧ l[i]!.r ≤ 3) && (i == 0 || decide (cmpG l[i-1]! l[i]! < 0))
def rightB (l : List Gr) : Bool := (List.range l.length).all (okAt l) && decide (l.length ≤ 64)
/-- All texts are no longer than Go's. -/
def Goks (l : List Gr) : Prop := ∀ g ∈ l, Gok g

set_option maxRecDepth 100000 in
set_option maxHeartbeats 3200000 in
theorem right_any (v : Value) (l : List Gr) (w : World) (h : Gs w v l) (hg : Goks l) : Calls Try.prog 9 #[v] w fun e w' => e = .returned (.bool (rightB l)) ∧ Mod (fun _ => False) w w' := by
  obtain ⟨A, c, rfl, hlc, hcm, hA⟩ := h.form
  unfold maxLen at hcm
  have HA := Lib.hid hA
  have HG := Lib.hid h
  have HK := Lib.hid hg
  clear hA h hg
  have HM0 : Hid (Mod (fun _ => False) w w) := Lib.hid (Mod.refl _ _)
  have Hno : Hid (∀ k, k < l.length → okAt l k = false → rightB l = false) := Lib.hid (fun k hk hf => by
    unfold rightB
    have : (List.range l.length).all (okAt l) = false := by
      rw [List.all_eq_false]
      exact ⟨k, List.mem_range.2 hk, by simp [hf]⟩
    rw [this]; rfl)
  have Hyes : Hid ((∀ k, k < l.length → okAt l k = true) → rightB l = decide (l.length ≤ 64)) := Lib.hid (fun hk => by
    unfold rightB
    have : (List.range l.length).all (okAt l) = true := by
      rw [List.all_eq_true]
      exact fun k hk' => hk k (List.mem_range.1 hk')
    rw [this]; rfl)
  go_enter Try.func9, Try.ntmps9
  go_wp2
  go_loopw [7] (fun i wr => ∃ k : Nat, i = .int .i64 k ∧ k ≤ l.length ∧ Hid (∀ j, j < k → okAt l j = true) ∧ Hid (Mod (fun _ => False) w wr)) (fun i _ => l.length - (intOf i).toNat)
  case atStart => exact ⟨0, rfl, by omega, Lib.hid (fun j hj => by omega), HM0⟩
  case round =>
    obtain ⟨k, rfl, hk, hall, hM⟩ := hrel
    by_cases hlt : k < l.length
    · rcases HA.out with h | ⟨ad, rfl⟩
      · omega
      have hGr := HG.out.new hM.out
      obtain ⟨c0, c1, c2⟩ := hGr.at_ k hlt
      have hgk := HK.out _ (List.getElem_mem hlt)
      have hget : l[k]! = l[k] := getElem!_pos l k hlt
      rcases k with _ | k
      · have hok : okAt l 0 = (fineB l[0] && decide ((1 : Int) ≤ l[0].r ∧ l[0].r ≤ (3 : Int))) := by
          unfold okAt
          rw [hget]
          simp
        generalize l[0] = g at *
        clear hget hGr
        have hb := Blk.new wr #[.string (sv g.t), .string (sv g.w), .int .i64 g.r] 24
        have hmW : Mod (fun _ => False) wr (wr.alloc (.cells #[.string (sv g.t), .string (sv g.w), .int .i64 g.r] 24)) := (Mod.refl _ _).alloc _
        have HB := Lib.hid hb
        have HW := Lib.hid hmW
        clear hb hmW
        rw [Nat.zero_mul] at c0 c1 c2
        have c0' : wr.cell? ad = some (.string (sv g.t)) := by simpa [Addr.add] using c0
        have c1' : wr.cell? ⟨ad.block, ad.off + 1, none⟩ = some (.string (sv g.w)) := by simpa [Addr.add] using c1
        have c2' : wr.cell? ⟨ad.block, ad.off + 2, none⟩ = some (.int .i64 g.r) := by simpa [Addr.add] using c2
        go_wp2
        obtain ⟨q, hq⟩ : ∃ q, wr.heap.size = q := ⟨_, rfl⟩
        rw [hq] at HB ⊢
        generalize wr.alloc (.cells #[.string (sv g.t), .string (sv g.w), .int .i64 g.r] 24) = W at *
        have b0 : ∀ x : After W, x.w.cell? ⟨q, 0, none⟩ = some (.string (sv g.t)) := calm_cell (HB.out.cell 0)
        have b1 : ∀ x : After W, x.w.cell? ⟨q, 1, none⟩ = some (.string (sv g.w)) := calm_cell (HB.out.cell 1)
        have b2 : ∀ x : After W, x.w.cell? ⟨q, 2, none⟩ = some (.int .i64 g.r) := calm_cell (HB.out.cell 2)
        have HM1 : Hid (Mod (fun _ => False) w W) := Lib.hid (hM.out.trans HW.out (fun _ h => h.elim))
        clear c0 c1 c2 c0' c1' c2' hq HW
        have Hok := Lib.hid hok
        clear hok
        rcases hf : fineB g with _ | _
        · have Hf := Lib.hid (fine_b hgk hf)
          have Hre : Hid (True → rightB l = false) := Lib.hid (fun _ => Hno.out 0 hlt (by rw [Hok.out, hf]; rfl))
          clear hf
          refine region_calm (by kernel_rfl) (by kernel_rfl) ?_
          repeat (go_big_quiet_step (first | (go_at_call 21; exact calm_call (Hf.out _))))
          refine calm_end (fun w9 hm9 => ?_)
          have Hfin : Hid (Mod (fun _ => False) w w9) := Lib.hid (HM1.out.trans hm9 (fun _ h => h.elim))
          clear hm9 b0 b1 b2
          go_wp2
          go_ret
          exact ⟨ret_bool (Hre.out (trivial)).symm, Hfin.out⟩
        · have Hf := Lib.hid (fine_b hgk hf)
          have Hre : Hid ((g.r < 1 ∨ 3 < g.r) → rightB l = false) := Lib.hid (fun hx => Hno.out 0 hlt (by
            rw [Hok.out, hf, decide_eq_false (show ¬ (1 ≤ g.r ∧ g.r ≤ 3) by omega)]; rfl))
          have Hre2 : Hid (1 ≤ g.r → g.r ≤ 3 → ∀ j, j < 0 + 1 → okAt l j = true) := Lib.hid (fun h1 h2 j hj => by
            obtain rfl : j = 0 := by omega
            rw [Hok.out, hf, decide_eq_true (show 1 ≤ g.r ∧ g.r ≤ 3 from ⟨h1, h2⟩)]; rfl)
          clear hf
          have hx : g.r < 1 ∨ (1 ≤ g.r ∧ 3 < g.r) ∨ (1 ≤ g.r ∧ g.r ≤ 3) := by omega
          rcases hx with x1 | ⟨x1, x2⟩ | ⟨x1, x2⟩
          · have t1 : decide (g.r < 1) = true := decide_eq_true x1
            refine region_calm (by kernel_rfl) (by kernel_rfl) ?_
            repeat (go_big_quiet_step (first | (go_at_call 21; exact calm_call (Hf.out _))))
            refine calm_end (fun w9 hm9 => ?_)
            have Hfin : Hid (Mod (fun _ => False) w w9) := Lib.hid (HM1.out.trans hm9 (fun _ h => h.elim))
            clear hm9 b0 b1 b2
            go_wp2
            go_ret
            exact ⟨ret_bool (Hre.out (.inl x1)).symm, Hfin.out⟩
          · have t1 : decide (g.r < 1) = false := decide_eq_false (by omega)
            have t2 : decide (3 < g.r) = true := decide_eq_true x2
            refine region_calm (by kernel_rfl) (by kernel_rfl) ?_
            repeat (go_big_quiet_step (first | (go_at_call 21; exact calm_call (Hf.out _))))
            refine calm_end (fun w9 hm9 => ?_)
            have Hfin : Hid (Mod (fun _ => False) w w9) := Lib.hid (HM1.out.trans hm9 (fun _ h => h.elim))
            clear hm9 b0 b1 b2
            go_wp2
            go_ret
            exact ⟨ret_bool (Hre.out (.inr x2)).symm, Hfin.out⟩
          · have t1 : decide (g.r < 1) = false := decide_eq_false (by omega)
            have t2 : decide (3 < g.r) = false := decide_eq_false (by omega)
            refine region_calm (by kernel_rfl) (by kernel_rfl) ?_
            repeat (go_big_quiet_step (first | (go_at_call 21; exact calm_call (Hf.out _))))
            refine calm_end (fun w9 hm9 => ?_)
            have Hfin : Hid (Mod (fun _ => False) w w9) := Lib.hid (HM1.out.trans hm9 (fun _ h => h.elim))
            clear hm9 b0 b1 b2
            go_wp2
            go_roundw
            case rel => exact ⟨0 + 1, by go_num, by omega, Lib.hid (Hre2.out x1 x2), Hfin⟩
            case measure => simp [intOf]; omega
      · have hlt' : k < l.length := by omega
        have hget' : l[k]! = l[k] := getElem!_pos l k hlt'
        obtain ⟨d0, d1, d2⟩ := hGr.at_ k hlt'
        have hok : okAt l (k + 1) = (fineB l[k+1] && decide (1 ≤ l[k+1].r ∧ l[k+1].r ≤ 3) && decide (cmpG l[k] l[k+1] < 0)) := by
          unfold okAt
          rw [hget]
          simp [hlt']
        generalize l[k+1] = g at *
        generalize l[k] = f at *
        clear hget hget' hGr
        have hb := Blk.new wr #[.string (sv g.t), .string (sv g.w), .int .i64 g.r] 24
        have hmW : Mod (fun _ => False) wr (wr.alloc (.cells #[.string (sv g.t), .string (sv g.w), .int .i64 g.r] 24)) := (Mod.refl _ _).alloc _
        have HB := Lib.hid hb
        have HW := Lib.hid hmW
        have HD := Lib.hid (keep3 ⟨d0, d1, d2⟩ hmW)
        clear hb hmW
        go_wp2
        obtain ⟨q, hq⟩ : ∃ q, wr.heap.size = q := ⟨_, rfl⟩
        rw [hq] at HB ⊢
        generalize wr.alloc (.cells #[.string (sv g.t), .string (sv g.w), .int .i64 g.r] 24) = W at *
        have e0 := calm_cell HD.out.1
        have e1 := calm_cell HD.out.2.1
        have e2 := calm_cell HD.out.2.2
        have b0 : ∀ x : After W, x.w.cell? ⟨q, 0, none⟩ = some (.string (sv g.t)) := calm_cell (HB.out.cell 0)
        have b1 : ∀ x : After W, x.w.cell? ⟨q, 1, none⟩ = some (.string (sv g.w)) := calm_cell (HB.out.cell 1)
        have b2 : ∀ x : After W, x.w.cell? ⟨q, 2, none⟩ = some (.int .i64 g.r) := calm_cell (HB.out.cell 2)
        have HM1 : Hid (Mod (fun _ => False) w W) := Lib.hid (hM.out.trans HW.out (fun _ h => h.elim))
        clear c0 c1 c2 d0 d1 d2 hq HW HD
        have Hok := Lib.hid hok
        clear hok
        rcases hf : fineB g with _ | _
        · have Hf := Lib.hid (fine_b hgk hf)
          have Hre : Hid (rightB l = false) := Lib.hid (Hno.out (k + 1) hlt (by rw [Hok.out, hf]; rfl))
          clear hf
          refine region_calm (by kernel_rfl) (by kernel_rfl) ?_
          repeat (go_big_quiet_step (first | (go_at_call 21; exact calm_call (Hf.out _))))
          refine calm_end (fun w9 hm9 => ?_)
          have Hfin : Hid (Mod (fun _ => False) w w9) := Lib.hid (HM1.out.trans hm9 (fun _ h => h.elim))
          clear hm9 e0 e1 e2 b0 b1 b2
          go_wp2
          go_ret
          exact ⟨ret_bool Hre.out.symm, Hfin.out⟩
        · have Hf := Lib.hid (fine_b hgk hf)
          have Hc := Lib.hid (cmp_b f g)
          have Hre : Hid ((g.r < 1 ∨ 3 < g.r ∨ 0 ≤ cmpG f g) → rightB l = false) := Lib.hid (fun hx => Hno.out (k + 1) hlt (by
            rw [Hok.out, hf]
            rcases hx with h | h | h
            · rw [decide_eq_false (show ¬ (1 ≤ g.r ∧ g.r ≤ 3) by omega)]; rfl
            · rw [decide_eq_false (show ¬ (1 ≤ g.r ∧ g.r ≤ 3) by omega)]; rfl
            · rw [decide_eq_false (show ¬ (cmpG f g < 0) by omega)]; simp))
          have Hre2 : Hid (1 ≤ g.r → g.r ≤ 3 → cmpG f g < 0 → ∀ j, j < k + 1 + 1 → okAt l j = true) := Lib.hid (fun h1 h2 h3 j hj => by
            rcases Nat.lt_or_ge j (k + 1) with h | h
            · exact hall.out j h
            · obtain rfl : j = k + 1 := by omega
              rw [Hok.out, hf, decide_eq_true (show 1 ≤ g.r ∧ g.r ≤ 3 from ⟨h1, h2⟩), decide_eq_true h3]; rfl)
          clear hf
          generalize cmpG f g = cv at *
          have hk0 : decide ((0 : Int) < (k : Int) + 1) = true := by rw [decide_eq_true]; omega
          have hk1 : decide ((0 : Int) < ((k + 1 : Nat) : Int)) = true := by rw [decide_eq_true]; omega
          have hx : g.r < 1 ∨ (1 ≤ g.r ∧ 3 < g.r) ∨ (1 ≤ g.r ∧ g.r ≤ 3 ∧ 0 ≤ cv) ∨ (1 ≤ g.r ∧ g.r ≤ 3 ∧ cv < 0) := by omega
          rcases hx with x1 | ⟨x1, x2⟩ | ⟨x1, x2, x3⟩ | ⟨x1, x2, x3⟩
          · have t1 : decide (g.r < 1) = true := decide_eq_true x1
            refine region_calm (by kernel_rfl) (by kernel_rfl) ?_
            repeat (go_big_quiet_step (first | (go_at_call 21; exact calm_call (Hf.out _)) | (go_at_call 24; exact calm_call (Hc.out _))))
            refine calm_end (fun w9 hm9 => ?_)
            have Hfin : Hid (Mod (fun _ => False) w w9) := Lib.hid (HM1.out.trans hm9 (fun _ h => h.elim))
            clear hm9 e0 e1 e2 b0 b1 b2
            go_wp2
            go_ret
            exact ⟨ret_bool (Hre.out (.inl x1)).symm, Hfin.out⟩
          · have t1 : decide (g.r < 1) = false := decide_eq_false (by omega)
            have t2 : decide (3 < g.r) = true := decide_eq_true x2
            refine region_calm (by kernel_rfl) (by kernel_rfl) ?_
            repeat (go_big_quiet_step (first | (go_at_call 21; exact calm_call (Hf.out _)) | (go_at_call 24; exact calm_call (Hc.out _))))
            refine calm_end (fun w9 hm9 => ?_)
            have Hfin : Hid (Mod (fun _ => False) w w9) := Lib.hid (HM1.out.trans hm9 (fun _ h => h.elim))
            clear hm9 e0 e1 e2 b0 b1 b2
            go_wp2
            go_ret
            exact ⟨ret_bool (Hre.out (.inr (.inl x2))).symm, Hfin.out⟩
          · have t1 : decide (g.r < 1) = false := decide_eq_false (by omega)
            have t2 : decide (3 < g.r) = false := decide_eq_false (by omega)
            have t3 : decide (0 ≤ cv) = true := decide_eq_true x3
            refine region_calm (by kernel_rfl) (by kernel_rfl) ?_
            repeat (go_big_quiet_step (first | (go_at_call 21; exact calm_call (Hf.out _)) | (go_at_call 24; exact calm_call (Hc.out _))))
            refine calm_end (fun w9 hm9 => ?_)
            have Hfin : Hid (Mod (fun _ => False) w w9) := Lib.hid (HM1.out.trans hm9 (fun _ h => h.elim))
            clear hm9 e0 e1 e2 b0 b1 b2
            go_wp2
            go_ret
            exact ⟨ret_bool (Hre.out (.inr (.inr x3))).symm, Hfin.out⟩
          · have t1 : decide (g.r < 1) = false := decide_eq_false (by omega)
            have t2 : decide (3 < g.r) = false := decide_eq_false (by omega)
            have t3 : decide (0 ≤ cv) = false := decide_eq_false (by omega)
            refine region_calm (by kernel_rfl) (by kernel_rfl) ?_
            repeat (go_big_quiet_step (first | (go_at_call 21; exact calm_call (Hf.out _)) | (go_at_call 24; exact calm_call (Hc.out _))))
            refine calm_end (fun w9 hm9 => ?_)
            have Hfin : Hid (Mod (fun _ => False) w w9) := Lib.hid (HM1.out.trans hm9 (fun _ h => h.elim))
            clear hm9 e0 e1 e2 b0 b1 b2
            go_wp2
            go_roundw
            case rel => exact ⟨k + 1 + 1, by go_num, by omega, Lib.hid (Hre2.out x1 x2 x3), Hfin⟩
            case measure => simp [intOf]; omega
    · obtain rfl : l.length = k := by omega
      have Hy := Lib.hid (Hyes.out hall.out)
      clear hall
      by_cases h64 : (l.length : Int) ≤ 64
      · go_wp2
        go_ret
        exact ⟨ret_bool (by rw [Hy.out, decide_eq_true (show l.length ≤ 64 by omega)]), hM.out⟩
      · go_wp2
        go_ret
        exact ⟨ret_bool (by rw [Hy.out, decide_eq_false (show ¬ l.length ≤ 64 by omega)]), hM.out⟩
end Go.Proofs.Ytpbdcjgconopnaa
